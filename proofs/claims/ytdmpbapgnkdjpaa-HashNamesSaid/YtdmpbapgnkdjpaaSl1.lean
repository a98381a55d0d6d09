/-
  Made by a program of mine (wip/gen), and by hand.
-/
import Derived.Test.YtdmpbapgnkdjpaaSe3
namespace Go.Ab
open Go.Proofs
set_option maxRecDepth 100000
set_option linter.unusedVariables false
set_option linter.unusedSimpArgs false


theorem bytesOfStr_of {l : List Int} (h : Bytes l) : bytesOfStr (strOfBytes l) = l := by
  unfold bytesOfStr strOfBytes
  simp only [List.map_map]
  conv => rhs; rw [← List.map_id l]
  refine List.map_congr_left fun x hx => ?_
  obtain ⟨h1, h2⟩ := h x hx
  simp only [Function.comp, id]
  rw [UInt8.toNat_ofNat']
  omega
theorem seq_data (x y : ByteArray) : seq x y = decide (x.data = y.data) := by
  unfold seq
  rw [Go.ByteArray.toList_eq, Go.ByteArray.toList_eq]
  by_cases h : x.data = y.data
  · simp [h]
  · have : ¬ x.data.toList = y.data.toList := fun e => h (Array.toList_inj.1 e)
    rw [dec_false h]
    simpa using this
theorem seq_bytes {x y : List Int} (hx : Bytes x) (hy : Bytes y) : seq (strOfBytes x) (strOfBytes y) = decide (x = y) := by
  rw [seq_data]
  by_cases h : x = y
  · subst h; simp
  · rw [dec_false h]
    refine dec_false fun e => h ?_
    have : strOfBytes x = strOfBytes y := by
      cases hx' : strOfBytes x; cases hy' : strOfBytes y
      rw [hx', hy'] at e
      simp only at e
      rw [e]
    rw [← bytesOfStr_of hx, this, bytesOfStr_of hy]
theorem bytes_append {a b : List Int} (ha : Bytes a) (hb : Bytes b) : Bytes (a ++ b) := fun x hx => by
  rcases List.mem_append.1 hx with h | h
  · exact ha x h
  · exact hb x h
theorem bytes_take {a : List Int} (n : Nat) (ha : Bytes a) : Bytes (a.take n) := fun x hx => ha x (List.mem_of_mem_take hx)
theorem bytes_drop {a : List Int} (n : Nat) (ha : Bytes a) : Bytes (a.drop n) := fun x hx => ha x (List.mem_of_mem_drop hx)
theorem bytes_strmN (key : List Int) : ∀ n, Bytes (strmN key n)
  | 0 => fun _ h => by cases h
  | n + 1 => bytes_append (bytes_strmN key n) (bytes_sha _)
theorem bytes_strmT (key : List Int) (n : Nat) : Bytes (strmT key n) := bytes_take _ (bytes_strmN _ _)
theorem xor_byte {x y : Int} (hx : Byte x) (hy : Byte y) : Byte (bitop .xor .u8 x y) ∧ bitop .xor .u8 x (bitop .xor .u8 x y) = y := by
  rw [hx.vw, hy.vw]
  simp only [bitop_u8]
  refine ⟨byte_vw _, ?_⟩
  congr 1
  rw [← BitVec.xor_assoc, BitVec.xor_self, BitVec.zero_xor]
theorem ov_get (key b : List Int) (i : Nat) (h : i < b.length) : (ov key b)[i]'(by rw [ov_length]; exact h) = bitop .xor .u8 ((strmT key b.length)[i]'(by rw [strmT_length]; exact h)) b[i] := by
  unfold ov from_
  simp only [List.getElem_mapIdx, Nat.not_lt_zero, if_false]
  unfold xf
  rw [if_pos h, nth_lt (t := .int .u8) h]
theorem bytes_ov {key b : List Int} (hb : Bytes b) : Bytes (ov key b) := fun x hx => by
  obtain ⟨i, hi, rfl⟩ := List.mem_iff_getElem.1 hx
  have hi' : i < b.length := by rw [ov_length] at hi; exact hi
  rw [ov_get key b i hi']
  exact (xor_byte (bytes_strmT key _ _ (List.getElem_mem _)) (hb _ (List.getElem_mem _))).1
theorem ov_ov {key b : List Int} (hb : Bytes b) : ov key (ov key b) = b := by
  apply List.ext_getElem (by rw [ov_length, ov_length])
  intro i h1 h2
  rw [ov_get key (ov key b) i (by rw [ov_length]; exact h2), ov_get key b i h2]
  simp only [ov_length]
  exact (xor_byte (bytes_strmT key _ _ (List.getElem_mem _)) (hb _ (List.getElem_mem _))).2
theorem bytes_mk8 (key h : List Int) : Bytes (mk8 key h) := bytes_take _ (bytes_sha _)
theorem bytes_sld {key b : List Int} (hb : Bytes b) : Bytes (sld key b) := bytes_append (bytes_ov hb) (bytes_mk8 _ _)
/-- What was sealed is opened. -/
theorem opn_sld {key b : List Int} (h : b.length ≤ 65536) : opn key (sld key b) = true ∧ (sld key b).take ((sld key b).length - 8) = ov key b := by
  have e : (sld key b).length - 8 = (ov key b).length := by rw [sld_length, ov_length]; omega
  have e1 : (sld key b).take ((sld key b).length - 8) = ov key b := by rw [e]; unfold sld; rw [List.take_left]
  have e2 : (sld key b).drop ((sld key b).length - 8) = mk8 key (ov key b) := by rw [e]; unfold sld; rw [List.drop_left]
  refine ⟨?_, e1⟩
  unfold opn
  refine dec_true ⟨?_, ?_, ?_⟩
  · rw [sld_length]; omega
  · rw [sld_length]; omega
  · rw [e1, e2]

/-! ### corsned/corsnedlaw09.small -/
abbrev small9.D := Unit
def small9.st : small9.D → List AVal × List Ent := fun _ => ([], [])
abbrev small9.Y := Bool
abbrev small9.X := Bool
def small9.out : small9.X → GRes := fun x => ⟨.d .bool x, [], []⟩
def small9.add : small9.D → small9.Y → small9.X := fun _ y => y


def small9.Pre : small9.D → Prop := fun _ => True
def small9.F : small9.D → small9.Y := fun _ => true

noncomputable def small9.G : Gam := gcons 24 anyArgs hsum.E (gcons 18 anyArgs sseal.E (gcons 14 anyArgs sopen.E (gcons 20 anyArgs htag.E (gcons 16 anyArgs sstream.E (gnil)))))
noncomputable def small9.an : Ann := {
  objs := [13, 17, 36],
  loops := fun r => { keep := [], sites := [], frz := [], data := [], owns := [] },
  outs := fun r b => { keep := [], sites := [], frz := [], data := [], owns := [] },
  sums := fun r => none,
  owns := [],
  trim := [],
  res := [] }
theorem small9.eq {R : Type}  (k : GRes → Option R) : arun Try.prog small9.G small9.an 0 Try.f13 (small9.st ()).1 (small9.st ()).2 k =
  obind (hsum.call [(107 : Int), (101 : Int), (121 : Int)]) fun x1 =>
  obind (sseal.call (x1, [(112 : Int), (108 : Int), (97 : Int), (105 : Int), (110 : Int)])) fun x2 =>
  obind (sopen.call (x1, x2)) fun x3 =>
  obind (sseal.call (x1, ([] : List Int))) fun x4 =>
  obind (sopen.call (x1, x4)) fun x5 =>
  obind (sopen.call (x1, [(49 : Int), (50 : Int), (51 : Int), (52 : Int), (53 : Int), (54 : Int), (55 : Int)])) fun x6 =>
  sel (decide (some 32 = some (List.length x1) ∧ 0 = 0)) (
  sel (decide (0 = 0 ∧ 32 ≤ (List.length x1))) (
  obind (htag.call ((⟨#[115, 101, 97, 108]⟩ : ByteArray), [(cut x1 0 32)])) fun x7 =>
  sel (decide (some 32 = some (List.length x1) ∧ 0 = 0)) (
  sel (decide (0 = 0 ∧ 32 ≤ (List.length x1))) (
  obind (htag.call ((⟨#[115, 101, 97, 108]⟩ : ByteArray), [(cut x1 0 32), ([] : List Int)])) fun x8 =>
  sel (decide (some 32 = some (List.length x1) ∧ 0 = 0)) (
  sel (decide (0 = 0 ∧ 32 ≤ (List.length x1))) (
  obind (htag.call ((⟨#[115, 116, 114, 101, 97, 109]⟩ : ByteArray), [(cut x1 0 32), [(0 : Int), (0 : Int), (0 : Int), (0 : Int), (0 : Int), (0 : Int), (0 : Int), (0 : Int)]])) fun x9 =>
  sel ((ieq (((List.length x2) : Nat) : Int) (13 : Int))) (
   sel (x3.2.1) (
    sel (decide (0 = 0 ∧ (0 + x3.1) ≤ (List.length x3.2.2))) (
    sel ((seq (strOfBytes (cut x3.2.2 0 x3.1)) (⟨#[112, 108, 97, 105, 110]⟩ : ByteArray))) (
     sel ((ieq (((List.length x4) : Nat) : Int) (8 : Int))) (
      sel (x5.2.1) (
       sel ((!x6.2.1)) (
        sel (decide (some 32 = some (List.length x8) ∧ 0 = 0)) (
        sel (decide (0 = 0 ∧ 8 ≤ (List.length x8))) (
        sel ((seq (strOfBytes x4) (strOfBytes (cut x8 0 8)))) (
         sel ((!(Ty.beq (.arr 32 (.int .u8)) x7 x8))) (
          obind (sstream.call (x1, (5 : Int))) fun x10 =>
          sel (decide (0 = 0 ∧ (0 + x10.1) ≤ (List.length x10.2))) (
          sel (decide (some 32 = some (List.length x9) ∧ 0 = 0)) (
          sel (decide (0 = 0 ∧ 5 ≤ (List.length x9))) (
          sel ((seq (strOfBytes (cut x10.2 0 x10.1)) (strOfBytes (cut x9 0 5)))) (
           obind (sstream.call (x1, (-1 : Int))) fun x11 =>
           sel ((ieq ((x11.1 : Nat) : Int) (0 : Int))) (
            obind (sstream.call (x1, (65537 : Int))) fun x12 =>
            sel ((ieq ((x12.1 : Nat) : Int) (0 : Int))) (
             obind (sstream.call (x1, (33 : Int))) fun x13 =>
             k (small9.out (ieq ((x13.1 : Nat) : Int) (33 : Int)))) (
             k (small9.out false))) (
            k (small9.out false))) (
           k (small9.out false))) none) none) none) (
          k (small9.out false))) (
         k (small9.out false))) none) none) (
        k (small9.out false))) (
       k (small9.out false))) (
      k (small9.out false))) (
     k (small9.out false))) none) (
    k (small9.out false))) (
   k (small9.out false))) none) none) none) none) none) none := by kernel_rfl


theorem tag_ne : tag lname [sha [107, 101, 121]] ≠ tag lname [sha [107, 101, 121], []] := by decide +kernel
theorem k0_ex : ∃ k0 : List Int, sha [107, 101, 121] = k0 ∧ k0.length = 32 ∧ tag lname [k0] ≠ tag lname [k0, []] := ⟨_, rfl, sha_length _, tag_ne⟩
theorem tagb_length : ∀ (l : List Int) (ps : List (List Int)), (tagb l ps).length = 8 + l.length + (tagp ps).length := by
  intro l ps
  simp only [tagb, List.length_append, be8_length]
theorem sseal_add {key b : List Int} (h : b.length ≤ 65536) : sseal.add (key, b) (sseal.F (key, b)) = sld key b := if_neg (by omega)
theorem sopen_of {key s : List Int} (h : opn key s = true) : sopen.add (key, s) (sopen.F (key, s)) = (s.length - 8, true, ov key (s.take (s.length - 8))) := by
  simp only [sopen.add, sopen.F, h, if_true]
theorem sopen_not {key s : List Int} (h : opn key s = false) : sopen.add (key, s) (sopen.F (key, s)) = (0, false, []) := by
  simp only [sopen.add, sopen.F, h, if_false, Bool.false_eq_true]
theorem sopen_sld {key b : List Int} (hb : Bytes b) (h : b.length ≤ 65536) : sopen.add (key, sld key b) (sopen.F (key, sld key b)) = (b.length, true, b) := by
  obtain ⟨h1, h2⟩ := opn_sld (key := key) h
  rw [sopen_of h1, h2, ov_ov hb, sld_length, Nat.add_sub_cancel]
theorem sstream_in {key : List Int} {n : Int} (h0 : 0 ≤ n) (h : n ≤ 65536) : sstream.add (key, n) (sstream.F (key, n)) = (n.toNat, strmT key n.toNat) := if_neg (by omega)
theorem sstream_out {key : List Int} {n : Int} (h : n < 0 ∨ 65536 < n) : sstream.add (key, n) (sstream.F (key, n)) = (0, []) := if_pos h
theorem sld_nil (key : List Int) : sld key [] = cut (tag lname [key, []]) 0 8 := by
  have : ov key [] = [] := List.eq_nil_of_length_eq_zero (ov_length _ _)
  unfold sld
  rw [this]
  rfl
theorem beq_ints (n : Nat) (k : IntKind) : ∀ (x y : List Int), Ty.beq (.arr n (.int k)) x y = decide (x = y)
  | [], [] => rfl
  | [], _ :: _ => rfl
  | _ :: _, [] => rfl
  | a :: x, b :: y => by
    have h : Ty.beq (.arr n (.int k)) (a :: x) (b :: y) = (decide (a = b) && Ty.beq (.arr n (.int k)) x y) := rfl
    rw [h, beq_ints n k x y]
    by_cases h1 : a = b <;> by_cases h2 : x = y <;> simp [h1, h2]
theorem strmT_5 (key : List Int) : strmT key 5 = cut (smA key 0) 0 5 := rfl
theorem tag_length (n : List Int) (ps : List (List Int)) : (tag n ps).length = 32 := sha_length _
theorem small9.ok : ∀ d, small9.Pre d → arun Try.prog small9.G small9.an 0 Try.f13 (small9.st d).1 (small9.st d).2 some = some (small9.out (small9.add d (small9.F d))) := by
  intro d _
  have h1 : hsum.Pre [107, 101, 121] := by show 3 ≤ _; omega
  obtain ⟨k0, hk0, k0_length, tag_ne⟩ := k0_ex
  have e1 : hsum.add [107, 101, 121] (hsum.F [107, 101, 121]) = k0 := hk0
  have hc : cut k0 0 32 = k0 := cut_all _ _ (by rw [k0_length]; omega)
  obtain ⟨pl, hpl, bp, lp, sp⟩ : ∃ pl : List Int, [112, 108, 97, 105, 110] = pl ∧ Bytes pl ∧ pl.length = 5 ∧ seq (strOfBytes pl) (⟨#[112, 108, 97, 105, 110]⟩ : ByteArray) = true :=
    ⟨_, rfl, by intro x hx; simp only [List.mem_cons, List.not_mem_nil, or_false] at hx; rcases hx with rfl | rfl | rfl | rfl | rfl <;> exact ⟨by omega, by omega⟩, rfl, by rw [seq_data]; exact dec_true (by decide)⟩
  obtain ⟨ps, hps, ls⟩ : ∃ ps : List Int, [49, 50, 51, 52, 53, 54, 55] = ps ∧ ps.length = 7 := ⟨_, rfl, rfl⟩
  have b0 : Bytes [] := fun _ h => by cases h
  have h2 : sseal.Pre (k0, pl) := k0_length
  have h4 : sseal.Pre (k0, []) := k0_length
  have e2 : sseal.add (k0, pl) (sseal.F (k0, pl)) = sld k0 pl := sseal_add (by omega)
  have e4 : sseal.add (k0, []) (sseal.F (k0, [])) = sld k0 [] := sseal_add (Nat.zero_le _)
  have h3 : sopen.Pre (k0, sld k0 pl) := ⟨k0_length, by show (sld _ _).length ≤ _; rw [sld_length]; omega⟩
  have h5 : sopen.Pre (k0, sld k0 []) := ⟨k0_length, by show (sld _ _).length ≤ _; rw [sld_length, List.length_nil]; omega⟩
  have h6 : sopen.Pre (k0, ps) := ⟨k0_length, by show ps.length ≤ _; omega⟩
  have o3 := sopen_sld (key := k0) bp (by omega)
  have o5 := sopen_sld (key := k0) b0 (Nat.zero_le _)
  have o6 := sopen_not (show opn k0 ps = false from dec_false fun h => by have := h.1; omega)
  have s2 : (sld k0 pl).length = 13 := by rw [sld_length, lp]
  have s4 : (sld k0 []).length = 8 := by rw [sld_length]; rfl
  have h7 : htag.Pre ((⟨#[115, 101, 97, 108]⟩ : ByteArray), [k0]) := by
    show (tagb _ _).length ≤ _
    rw [tagb_length]
    simp only [tagp, List.flatMap_cons, List.flatMap_nil, List.length_append, be8_length, bytesOfStr_length, List.append_nil]
    show 8 + 4 + _ ≤ _
    omega
  have h8 : htag.Pre ((⟨#[115, 101, 97, 108]⟩ : ByteArray), [k0, []]) := by
    show (tagb _ _).length ≤ _
    rw [tagb_length]
    simp only [tagp, List.flatMap_cons, List.flatMap_nil, List.length_append, be8_length, bytesOfStr_length, List.append_nil]
    show 8 + 4 + _ ≤ _
    omega
  have h9 : htag.Pre ((⟨#[115, 116, 114, 101, 97, 109]⟩ : ByteArray), [k0, [0, 0, 0, 0, 0, 0, 0, 0]]) := by
    show (tagb _ _).length ≤ _
    rw [tagb_length]
    simp only [tagp, List.flatMap_cons, List.flatMap_nil, List.length_append, List.length_cons, List.length_nil, be8_length, bytesOfStr_length, List.append_nil]
    show 8 + 6 + _ ≤ _
    omega
  have e7 : htag.add ((⟨#[115, 101, 97, 108]⟩ : ByteArray), [k0]) (htag.F ((⟨#[115, 101, 97, 108]⟩ : ByteArray), [k0])) = tag lname [k0] := rfl
  have e8 : htag.add ((⟨#[115, 101, 97, 108]⟩ : ByteArray), [k0, []]) (htag.F ((⟨#[115, 101, 97, 108]⟩ : ByteArray), [k0, []])) = tag lname [k0, []] := rfl
  have e9 : htag.add ((⟨#[115, 116, 114, 101, 97, 109]⟩ : ByteArray), [k0, [0, 0, 0, 0, 0, 0, 0, 0]]) (htag.F ((⟨#[115, 116, 114, 101, 97, 109]⟩ : ByteArray), [k0, [0, 0, 0, 0, 0, 0, 0, 0]])) = smA k0 0 := rfl
  have hs : ∀ n : Int, sstream.Pre (k0, n) := fun _ => k0_length
  have q5 : sstream.add (k0, 5) (sstream.F (k0, 5)) = (5, strmT k0 5) := sstream_in (by omega) (by omega)
  have qm : sstream.add (k0, -1) (sstream.F (k0, -1)) = (0, []) := sstream_out (by omega)
  have qx : sstream.add (k0, 65537) (sstream.F (k0, 65537)) = (0, []) := sstream_out (by omega)
  have q3 : sstream.add (k0, 33) (sstream.F (k0, 33)) = (33, strmT k0 33) := sstream_in (by omega) (by omega)
  have c1 : cut pl 0 5 = pl := cut_all _ _ (by omega)
  have c2 : cut (strmT k0 5) 0 5 = strmT k0 5 := cut_all _ _ (by rw [strmT_length]; omega)
  have g1 : ∀ x, seq x x = true := fun x => by rw [seq_data]; simp
  have g2 : (!(Ty.beq (.arr 32 (.int .u8)) (tag lname [k0]) (tag lname [k0, []]))) = true := by rw [beq_ints, dec_false tag_ne]; rfl
  rw [small9.eq, hsum.run h1, e1, hpl, hps]
  simp only [obind_some, sseal.run h2, e2, sopen.run h3, sseal.run h4, e4, sopen.run h5, sopen.run h6, hc, k0_length, htag.run h7, e7, htag.run h8, e8, htag.run h9, e9, o3, o5, o6, s2, s4, lp, c1, sp, sstream.run (hs _), q5, qm, qx, q3,
    tag_length, strmT_length, c2, g2, smA_length]
  rw [sld_nil, strmT_5, g1, g1]
  rfl

theorem small9.inj : ∀ d d', small9.st d = small9.st d' → d = d' := fun _ _ _ => rfl
noncomputable def small9.E : Entry := Entry.of [] small9.st small9.Pre (fun d => small9.add d (small9.F d)) small9.out
noncomputable def small9.call : small9.D → Option small9.X := fun d => small9.E.run (small9.st d).1 (small9.st d).2
theorem small9.run {d : small9.D} (h : small9.Pre d) : small9.call d = some (small9.add d (small9.F d)) := Entry.of_run small9.inj h
theorem small9.does : Does Try.prog 13 small9.E := Does.of (by kernel_rfl) (show Sound _ small9.G from Sound.cons hsum.does (Sound.cons sseal.does (Sound.cons sopen.does (Sound.cons htag.does (Sound.cons sstream.does (Sound.nil _)))))) (by kernel_rfl) (by kernel_rfl) (by kernel_rfl) (LOk.fn 0 (by kernel_rfl) trivial) small9.ok

end Go.Ab
