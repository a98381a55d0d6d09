/-
  Made by a program of mine (wip/gen), and by hand.
-/
import Derived.Test.YtdmpbapgnkdjpaaSl4
namespace Go.Ab
open Go.Proofs
set_option maxRecDepth 100000
set_option linter.unusedVariables false

/-! ### corsned/corsnedlaw09.SealTagged -/
abbrev ltagged.L0.D := (List Int) × (List Int) × Bool × Int × Nat × Int × (List Int)
def ltagged.L0.st : ltagged.L0.D → AS := fun (key_2, more_2, head, n, spoiltL, i, n43) => ⟨[.undef, .undef, .undef, .rptr (.arr 32 (.int .u8)) key_2, .undef, .rptr (.arr 8 (.int .u8)) more_2, .undef, .d .bool head, .undef, .d (.int .i64) n, .undef, .sref (.new 43 0) 1 [] 0 0 spoiltL, .d (.int .i64) i, .undef, .undef, .undef, .undef, .undef, .undef, .undef, .undef, .undef, .undef, .undef, .undef, .undef, .undef, .undef, .undef, .undef, .undef, .undef, .undef, .undef, .undef, .undef, .undef, .undef, .undef, .undef, .undef, .undef, .undef, .undef, .undef, .undef, .undef, .undef, .undef, .undef, .undef, .undef, .undef, .undef, .undef, .undef, .undef, .undef, .undef, .undef, .undef, .undef, .undef, .undef, .undef, .undef, .undef, .undef, .undef, .undef, .undef, .undef, .undef, .undef, .undef, .undef, .undef, .undef, .undef, .undef, .undef, .undef, .undef, .undef, .undef, .undef, .undef], [], [[], [], [], [], [], [], [], [], [], [], [], [], [], [], [], [], [], [], [], [], [], [], [], [], [], [], [], [], [], [], [], [], [], [], [], [], [], [], [], [], [], [], [], [.obj 1 false (.vec 5 (.int .u8) n43)], [], [], [], [], [], [], [], [], [], [], [], [], [], [], [], [], [], [], [], [], [], [], [], [], [], [], [], [], [], [], [], [], [], [], [], [], [], [], [], [], [], [], []]⟩
abbrev ltagged.L0.Y0 := (List Int)  -- n43
abbrev ltagged.L0.X0 := ((List Int) × (List Int) × Bool × Nat) × ((List Int))
def ltagged.L0.ex0 : ltagged.L0.X0 → Exit × AS := fun x => (.exit 0, ⟨[.undef, .undef, .undef, .rptr (.arr 32 (.int .u8)) x.1.1, .undef, .rptr (.arr 8 (.int .u8)) x.1.2.1, .undef, .d .bool x.1.2.2.1, .undef, .undef, .undef, .sref (.new 43 0) 1 [] 0 0 x.1.2.2.2, .undef, .undef, .undef, .undef, .undef, .undef, .undef, .undef, .undef, .undef, .undef, .undef, .undef, .undef, .undef, .undef, .undef, .undef, .undef, .undef, .undef, .undef, .undef, .undef, .undef, .undef, .undef, .undef, .undef, .undef, .undef, .undef, .undef, .undef, .undef, .undef, .undef, .undef, .undef, .undef, .undef, .undef, .undef, .undef, .undef, .undef, .undef, .undef, .undef, .undef, .undef, .undef, .undef, .undef, .undef, .undef, .undef, .undef, .undef, .undef, .undef, .undef, .undef, .undef, .undef, .undef, .undef, .undef, .undef, .undef, .undef, .undef, .undef, .undef, .undef], [], [[], [], [], [], [], [], [], [], [], [], [], [], [], [], [], [], [], [], [], [], [], [], [], [], [], [], [], [], [], [], [], [], [], [], [], [], [], [], [], [], [], [], [], [.obj 1 false (.vec 5 (.int .u8) x.2)], [], [], [], [], [], [], [], [], [], [], [], [], [], [], [], [], [], [], [], [], [], [], [], [], [], [], [], [], [], [], [], [], [], [], [], [], [], [], [], [], [], [], []]⟩)
abbrev ltagged.L0.X := ltagged.L0.X0
abbrev ltagged.L0.Y := ltagged.L0.Y0
def ltagged.L0.out : ltagged.L0.X → Out (Exit × AS) := fun x => .ok (ltagged.L0.ex0 x)
def ltagged.L0.add : ltagged.L0.D → ltagged.L0.Y → ltagged.L0.X := fun (key_2, more_2, head, n, spoiltL, i, n43) y => ((key_2, more_2, head, spoiltL), y)
abbrev ltagged.D := (List Int) × (List Int) × (List Int)
def ltagged.st : ltagged.D → List AVal × List Ent := fun (key, plain, more) => ([.d (.arr 32 (.int .u8)) key, .d (.slice (.int .u8)) plain, .d (.arr 8 (.int .u8)) more], [])
abbrev ltagged.Y := Bool
abbrev ltagged.X := Bool
def ltagged.out : ltagged.X → GRes := fun x => ⟨.d .bool x, [], []⟩
def ltagged.add : ltagged.D → ltagged.Y → ltagged.X := fun (key, plain, more) y => y


def tf (more : List Int) (n : Nat) (j : Nat) (x : Int) : Int := bitop .xor .u8 x (nth (.int .u8) more (j - n))
def ltagged.L0.Pre : ltagged.L0.D → Prop := fun (key, more, head, n, m, i, l) => more.length = 8 ∧ ∃ N k : Nat, N ≤ 1000 ∧ k ≤ 8 ∧ n = N ∧ i = k ∧ m = N + 8 ∧ l.length = N + 8
def ltagged.L0.F : ltagged.L0.D → ltagged.L0.Y := fun (key, more, head, n, m, i, l) => from_ (tf more n.toNat) (n.toNat + i.toNat) l
def ltagged.Pre : ltagged.D → Prop := fun (key, a, more) => key.length = 32 ∧ Bytes a ∧ more.length = 8 ∧ Bytes more
def ltagged.F : ltagged.D → ltagged.Y := fun _ => true

noncomputable def ltagged.G : Gam := gcons 13 anyArgs small9.E (gcons 18 anyArgs sseal.E (gcons 20 anyArgs htag.E (gcons 14 anyArgs sopen.E (gnil))))
noncomputable def ltagged.L0.E : LEntry := LEntry.of ltagged.L0.st ltagged.L0.Pre (fun d => ltagged.L0.add d (ltagged.L0.F d)) ltagged.L0.out
noncomputable def ltagged.L0.call : ltagged.L0.D → Option ltagged.L0.X := fun d => ltagged.L0.E.run (ltagged.L0.st d)
noncomputable def ltagged.an : Ann := {
  objs := [43],
  loops := fun r => bif Nat.beq r 13 then { keep := [3, 5, 7, 9, 11, 12], sites := [43], frz := [], data := [], owns := [] } else { keep := [], sites := [], frz := [], data := [], owns := [] },
  outs := fun r b => bif Nat.beq r 13 then (bif b then { keep := [6], sites := [], frz := [], data := [], owns := [] } else { keep := [3, 5, 7, 11], sites := [43], frz := [], data := [], owns := [] }) else { keep := [], sites := [], frz := [], data := [], owns := [] },
  sums := fun r => bif Nat.beq r 13 then some ltagged.L0.E else none,
  owns := [],
  trim := [],
  res := [] }
theorem ltagged.L0.inj : ∀ d d', ltagged.L0.st d = ltagged.L0.st d' → d = d' := fun (key_2, more_2, head, n, spoiltL, i, n43) (key_2', more_2', head', n', spoiltL', i', n43') hEq => by
  have e0 : key_2 = key_2' := rptr_inj (t := (.arr 32 (.int .u8))) (congrArg (fun s : AS => (s.slot 3)) hEq)
  have e1 : more_2 = more_2' := rptr_inj (t := (.arr 8 (.int .u8))) (congrArg (fun s : AS => (s.slot 5)) hEq)
  have e2 : head = head' := d_inj (t := .bool) (congrArg (fun s : AS => (s.slot 7)) hEq)
  have e3 : n = n' := d_inj (t := (.int .i64)) (congrArg (fun s : AS => (s.slot 9)) hEq)
  have e4 : spoiltL = spoiltL' := congrArg (fun s : AS => srefLen (s.slot 11)) hEq
  have e5 : i = i' := d_inj (t := (.int .i64)) (congrArg (fun s : AS => (s.slot 12)) hEq)
  have e6 : n43 = n43' := vec_inj (e := 5) (t := (.int .u8)) (congrArg (fun s : AS => (entC (s.ent (.new 43 0)))) hEq)
  rw [e0, e1, e2, e3, e4, e5, e6]
theorem ltagged.L0.run {d : ltagged.L0.D} (h : ltagged.L0.Pre d) : ltagged.L0.call d = some (ltagged.L0.add d (ltagged.L0.F d)) := LEntry.of_run ltagged.L0.inj h
theorem ltagged.L0.byRounds (μ : ltagged.L0.D → Nat) (h : ∀ d, ltagged.L0.Pre d → (∃ d', ltagged.L0.Pre d' ∧ μ d' < μ d ∧ ltagged.L0.add d' (ltagged.L0.F d') = ltagged.L0.add d (ltagged.L0.F d) ∧ ∀ {R : Type} (kn : AS → Option R) (kx : Exit → AS → Option R), lround Try.prog ltagged.G ltagged.an 0 Try.f7 0 (ltagged.L0.st d) kn kx = kn (ltagged.L0.st d')) ∨ (∀ {R : Type} (kn : AS → Option R) (kx : Exit → AS → Option R), lround Try.prog ltagged.G ltagged.an 0 Try.f7 0 (ltagged.L0.st d) kn kx = kx (ltagged.L0.ex0 (ltagged.L0.add d (ltagged.L0.F d))).1 (ltagged.L0.ex0 (ltagged.L0.add d (ltagged.L0.F d))).2)) : ∀ d, ltagged.L0.Pre d → ∃ n, lrun Try.prog ltagged.G ltagged.an 0 Try.f7 0 n (ltagged.L0.st d) (fun e s => some (e, s)) = (ltagged.L0.out (ltagged.L0.add d (ltagged.L0.F d))).eval := lrun_one (F := fun d => ltagged.L0.add d (ltagged.L0.F d)) μ h
theorem ltagged.L0.step {R : Type} (key_2 : (List Int)) (more_2 : (List Int)) (head : Bool) (n : Int) (spoiltL : Nat) (i : Int) (n43 : (List Int)) (kn : AS → Option R) (kx : Exit → AS → Option R) : lround Try.prog ltagged.G ltagged.an 0 Try.f7 0 (ltagged.L0.st (key_2, more_2, head, n, spoiltL, i, n43)) kn kx =
  sel ((ilt i (8 : Int))) (
   sel (inb (iadd .i64 n i) ((spoiltL : Nat) : Int)) (
   sel (decide ((0 + (Int.toNat (iadd .i64 n i))) < (List.length n43))) (
   sel (decide ((((0 + (Int.toNat (iadd .i64 n i))) * 1) + 0) = (0 + ((Int.toNat (iadd .i64 n i)) * 1)))) (
   sel (inb i (8 : Int)) (
   sel (inb (iadd .i64 n i) ((spoiltL : Nat) : Int)) (
   sel (decide ((0 + (Int.toNat (iadd .i64 n i))) < (List.length n43))) (
   sel (decide ((((0 + (Int.toNat (iadd .i64 n i))) * 1) + 0) = (0 + ((Int.toNat (iadd .i64 n i)) * 1)))) (
   sel (decide ((0 + (Int.toNat (iadd .i64 n i))) < (List.length n43))) (
   kn (ltagged.L0.st (key_2, more_2, head, n, spoiltL, (iadd .i64 i (1 : Int)), (List.set n43 (0 + (Int.toNat (iadd .i64 n i))) (bitop .xor .u8 (nth (.int .u8) n43 (0 + (Int.toNat (iadd .i64 n i)))) (nth (.int .u8) more_2 (Int.toNat i))))))) none) none) none) none) none) none) none) none) (
   kx (ltagged.L0.ex0 ((key_2, more_2, head, spoiltL), n43)).1 (ltagged.L0.ex0 ((key_2, more_2, head, spoiltL), n43)).2) := by kernel_rfl
theorem ltagged.eq {R : Type} (key : (List Int)) (plain : (List Int)) (more : (List Int)) (k : GRes → Option R) : arun Try.prog ltagged.G ltagged.an 0 Try.f7 (ltagged.st (key, plain, more)).1 (ltagged.st (key, plain, more)).2 k =
  obind (small9.call ()) fun x1 =>
  sel ((igt (((List.length plain) : Nat) : Int) (1000 : Int))) (
   k (ltagged.out x1)) (
   obind (sseal.call (key, plain)) fun x2 =>
   sel ((ine (((List.length x2) : Nat) : Int) (iadd .i64 (((List.length plain) : Nat) : Int) (8 : Int)))) (
    k (ltagged.out false)) (
    sel (inc (((List.length plain) : Nat) : Int) (((List.length x2) : Nat) : Int)) (
    obind (htag.call ((⟨#[115, 101, 97, 108]⟩ : ByteArray), [(cut key 0 32), (cut x2 0 ((Int.toNat (((List.length plain) : Nat) : Int)) - 0))])) fun x3 =>
    sel (decide (some 32 = some (List.length x3) ∧ 0 = 0)) (
    sel (decide (0 = 0 ∧ 8 ≤ (List.length x3))) (
    sel (inc (((List.length plain) : Nat) : Int) (((List.length x2) : Nat) : Int)) (
    sel ((sne (strOfBytes (cut x3 0 8)) (strOfBytes (cut x2 (Int.toNat (((List.length plain) : Nat) : Int)) ((List.length x2) - (Int.toNat (((List.length plain) : Nat) : Int))))))) (
     k (ltagged.out false)) (
     sel (roomA (0 + (List.length x2)) 1) (
     obind (ltagged.L0.call (key, more, x1, (((List.length plain) : Nat) : Int), (0 + (List.length x2)), (0 : Int), ((List.take 0 (List.replicate 0 (0 : Int))) ++ x2))) fun x4 =>
     sel (decide (0 = 0 ∧ (0 + x4.1.2.2.2) ≤ (List.length x4.2))) (
     obind (sopen.call (x4.1.1, (cut x4.2 0 x4.1.2.2.2))) fun x5 =>
     sel (x4.1.2.2.1) (
      sel ((Ty.beq .bool x5.2.1 (Ty.beq (.arr 8 (.int .u8)) x4.1.2.1 (List.replicate 8 (0 : Int))))) (
       sel (x5.2.1) (
        k (ltagged.out true)) (
        k (ltagged.out (ieq ((x5.1 : Nat) : Int) (0 : Int))))) (
       k (ltagged.out false))) (
      k (ltagged.out false))) none) none)) none) none) none) none)) := by kernel_rfl


theorem xor_zero {x m : Int} (hx : Byte x) (hm : Byte m) : x = bitop .xor .u8 x m ↔ m = 0 := by
  rw [hx.vw, hm.vw]
  simp only [bitop_u8]
  generalize BitVec.ofInt 8 x = a
  generalize BitVec.ofInt 8 m = b
  constructor
  · intro h
    have h : (a.toNat : Int) = ((a ^^^ b).toNat : Int) := h
    have h := BitVec.eq_of_toNat_eq (Int.ofNat.inj h)
    have : b = 0#8 := by
      have e : a ^^^ (a ^^^ b) = a ^^^ a := by rw [← h]
      rw [← BitVec.xor_assoc, BitVec.xor_self, BitVec.zero_xor] at e
      exact e
    rw [this]; rfl
  · intro h
    have h : (b.toNat : Int) = ((0 : Nat) : Int) := h
    have : b = 0#8 := BitVec.eq_of_toNat_eq (Int.ofNat.inj h)
    rw [this, BitVec.xor_zero]
def spoilt (key b more : List Int) : List Int := from_ (tf more b.length) b.length (sld key b)
theorem spoilt_length (key b more : List Int) : (spoilt key b more).length = b.length + 8 := by
  unfold spoilt
  rw [from_length, sld_length]
theorem spoilt_get (key b more : List Int) (i : Nat) (h : i < (spoilt key b more).length) : (spoilt key b more)[i] = if i < b.length then (sld key b)[i]'(by rw [sld_length, ← spoilt_length key b more]; exact h) else tf more b.length i ((sld key b)[i]'(by rw [sld_length, ← spoilt_length key b more]; exact h)) := List.getElem_mapIdx (f := fun i x => if i < b.length then x else tf more b.length i x) (l := sld key b) (h := by rw [List.length_mapIdx, sld_length, ← spoilt_length key b more]; exact h)
theorem spoilt_take (key b more : List Int) : (spoilt key b more).take b.length = ov key b := by
  apply List.ext_getElem (by rw [List.length_take, spoilt_length, ov_length]; omega)
  intro i h1 h2
  rw [ov_length] at h2
  rw [List.getElem_take, spoilt_get, if_pos h2]
  unfold sld
  rw [List.getElem_append_left (by rw [ov_length]; exact h2)]
theorem spoilt_drop (key b more : List Int) (i : Nat) (h : i < 8) : ((spoilt key b more).drop b.length)[i]'(by rw [List.length_drop, spoilt_length]; omega) = bitop .xor .u8 ((mk8 key (ov key b))[i]'(by rw [mk8_length]; exact h)) (nth (.int .u8) more i) := by
  rw [List.getElem_drop, spoilt_get, if_neg (by omega)]
  unfold sld tf
  rw [List.getElem_append_right (by rw [ov_length]; omega)]
  simp only [ov_length, Nat.add_sub_cancel_left]
theorem opn_spoilt {key b more : List Int} (hb : b.length ≤ 65536) (hm : Bytes more) (h8 : more.length = 8) : opn key (spoilt key b more) = decide (more = List.replicate 8 0) := by
  have e : (spoilt key b more).length - 8 = b.length := by rw [spoilt_length]; omega
  unfold opn
  rw [e, spoilt_take]
  have nz : ∀ (i : Nat) (h : i < more.length), nth (.int .u8) more i = more[i] := fun i h => nth_lt (t := .int .u8) h
  by_cases h : more = List.replicate 8 0
  · rw [dec_true h]
    refine dec_true ⟨by rw [spoilt_length]; omega, by rw [spoilt_length]; omega, ?_⟩
    apply List.ext_getElem (by rw [mk8_length, List.length_drop, spoilt_length]; omega)
    intro i h1 h2
    rw [mk8_length] at h1
    rw [spoilt_drop key b more i h1]
    refine (xor_zero (bytes_mk8 _ _ _ (List.getElem_mem _)) ?_).2 ?_
    · rw [nz i (by omega)]; exact hm _ (List.getElem_mem _)
    · rw [nz i (by omega)]; simp only [h, List.getElem_replicate]
  · rw [dec_false h]
    refine dec_false fun hh => h ?_
    obtain ⟨_, _, hh⟩ := hh
    apply List.ext_getElem (by rw [h8, List.length_replicate])
    intro i h1 h2
    have hi : i < 8 := by omega
    have := spoilt_drop key b more i hi
    simp only [← hh] at this
    have := (xor_zero (bytes_mk8 _ _ _ (List.getElem_mem _)) (by rw [nz i h1]; exact hm _ (List.getElem_mem _))).1 this
    rw [nz i h1] at this
    rw [this, List.getElem_replicate]
theorem ltagged.L0.ok : ∀ d, ltagged.L0.Pre d → ∃ n, lrun Try.prog ltagged.G ltagged.an 0 Try.f7 0 n (ltagged.L0.st d) (fun e s => some (e, s)) = (ltagged.L0.out (ltagged.L0.add d (ltagged.L0.F d))).eval := by
  refine ltagged.L0.byRounds (fun (key, more, head, n, m, i, l) => 8 - i.toNat) ?_
  rintro ⟨key, more, head, n, m, i, l⟩ ⟨h8, N, k, hN, hk, rfl, rfl, rfl, hl⟩
  have h8 : more.length = 8 := h8
  have hl : l.length = N + 8 := hl
  by_cases h : k < 8
  · left
    have e1 : iadd .i64 (k : Int) 1 = ((k + 1 : Nat) : Int) := by rw [iadd_i64 (by omega) (by omega)]; omega
    have e2 : iadd .i64 (N : Int) (k : Int) = ((N + k : Nat) : Int) := by rw [iadd_i64 (by omega) (by omega)]; omega
    have n1 : nth (.int .u8) l (N + k) = l[N + k] := nth_lt (t := .int .u8) (by omega)
    have i1 : inb ((N + k : Nat) : Int) ((N + 8 : Nat) : Int) = true := inb_true (by omega) (by omega)
    have i2 : inb (k : Int) (8 : Int) = true := inb_true (by omega) (by omega)
    have d1 : decide (N + k < l.length) = true := dec_true (by omega)
    have t1 : tf more N (N + k) l[N + k] = bitop .xor .u8 l[N + k] (nth (.int .u8) more k) := by
      unfold tf
      rw [Nat.add_sub_cancel_left]
    refine ⟨(key, more, head, (N : Int), N + 8, ((k + 1 : Nat) : Int), l.set (N + k) (tf more N (N + k) l[N + k])), ⟨h8, N, k + 1, hN, by omega, rfl, rfl, rfl, by rw [List.length_set]; exact hl⟩, by show 8 - Int.toNat ((k + 1 : Nat) : Int) < 8 - Int.toNat (k : Int); omega, ?_, fun kn kx => ?_⟩
    · simp only [ltagged.L0.add, ltagged.L0.F, Int.toNat_natCast]
      rw [← Nat.add_assoc, from_step (tf more N) l (N + k) (by omega)]
    · rw [ltagged.L0.step, ilt_true (by omega)]
      simp only [sel_true, e1, e2, Int.toNat_natCast, Nat.zero_add, Nat.mul_one, Nat.add_zero, decide_true, i1, i2, d1, n1, t1]
  · right
    intro R kn kx
    rw [ltagged.L0.step, ilt_false (by omega)]
    simp only [sel_false, ltagged.L0.add, ltagged.L0.F, Int.toNat_natCast]
    rw [from_end (tf more N) l (N + k) (by omega)]
theorem ltagged.ok : ∀ d, ltagged.Pre d → arun Try.prog ltagged.G ltagged.an 0 Try.f7 (ltagged.st d).1 (ltagged.st d).2 some = some (ltagged.out (ltagged.add d (ltagged.F d))) := by
  rintro ⟨key, a, more⟩ ⟨hk, ha, hm, hmb⟩
  have hk : key.length = 32 := hk
  have hm : more.length = 8 := hm
  have hmb : Bytes more := hmb
  have e1 : small9.add () (small9.F ()) = true := rfl
  rw [ltagged.eq, small9.run trivial, e1]
  simp only [obind_some]
  by_cases h1 : 1000 < a.length
  · rw [igt_true (by omega)]; rfl
  rw [igt_false (by omega), sel_false]
  have p1 : sseal.Pre (key, a) := hk
  have q1 : iadd .i64 ((a.length : Nat) : Int) 8 = ((a.length + 8 : Nat) : Int) := by rw [iadd_i64 (by omega) (by omega)]; omega
  have lo := ov_length key a
  have c1 : cut (sld key a) 0 a.length = ov key a := by
    unfold cut sld
    rw [List.drop_zero, List.take_append_of_le_length (by omega), List.take_of_length_le (by omega)]
  have c2 : cut (sld key a) a.length (a.length + 8 - a.length) = mk8 key (ov key a) := by
    unfold cut sld
    rw [List.drop_append_of_le_length (by omega), List.drop_of_length_le (by omega), List.nil_append, List.take_of_length_le (by rw [mk8_length]; omega)]
  have c3 : cut (tag lname [key, ov key a]) 0 8 = mk8 key (ov key a) := rfl
  have p2 : htag.Pre ((⟨#[115, 101, 97, 108]⟩ : ByteArray), [key, ov key a]) := by
    show (tagb _ _).length ≤ _
    rw [tagb_length]
    simp only [tagp, List.flatMap_cons, List.flatMap_nil, List.length_append, be8_length, bytesOfStr_length, List.append_nil]
    show 8 + 4 + _ ≤ _
    omega
  have e2 : htag.add ((⟨#[115, 101, 97, 108]⟩ : ByteArray), [key, ov key a]) (htag.F ((⟨#[115, 101, 97, 108]⟩ : ByteArray), [key, ov key a])) = tag lname [key, ov key a] := rfl
  have p3 : ltagged.L0.Pre (key, more, true, (a.length : Int), a.length + 8, 0, sld key a) := ⟨hm, a.length, 0, by omega, by omega, rfl, rfl, rfl, sld_length key a⟩
  have e3 : ltagged.L0.add (key, more, true, (a.length : Int), a.length + 8, 0, sld key a) (ltagged.L0.F (key, more, true, (a.length : Int), a.length + 8, 0, sld key a)) = ((key, more, true, a.length + 8), spoilt key a more) := rfl
  have ls := spoilt_length key a more
  have c4 : cut (spoilt key a more) 0 (a.length + 8) = spoilt key a more := cut_all _ _ (by omega)
  have p4 : sopen.Pre (key, spoilt key a more) := ⟨hk, by show (spoilt _ _ _).length ≤ _; omega⟩
  have ho := opn_spoilt (key := key) (b := a) (by omega) hmb hm
  have r0 : roomA (a.length + 8) 1 = true := room_true (by omega) (by omega)
  simp only [sseal.run p1, obind_some, sseal_add (show a.length ≤ 65536 by omega), sld_length, q1, ine_false rfl, sel_false, cut_all key 32 (by omega), Int.toNat_natCast, Nat.sub_zero, c1, c2, htag.run p2, e2, c3, sne_bytes rfl, Nat.zero_add, r0, sel_true,
    List.take_zero, List.nil_append, ltagged.L0.run p3, e3, c4, sopen.run p4, tag_length, ls, beq_ints]
  rw [inc_true (by omega) (by omega)]
  by_cases hz : more = List.replicate 8 0
  · rw [dec_true hz] at ho
    rw [sopen_of ho, dec_true hz]
    simp only [Nat.le_refl, and_self, decide_true, sel_true]
    rfl
  · rw [dec_false hz] at ho
    rw [sopen_not ho, dec_false hz]
    simp only [Nat.le_refl, and_self, decide_true, sel_true]
    rfl

theorem ltagged.inj : ∀ d d', ltagged.st d = ltagged.st d' → d = d' := fun (key, plain, more) (key', plain', more') hEq => by
  have e0 : key = key' := d_inj (t := (.arr 32 (.int .u8))) (congrArg (fun s : List AVal × List Ent => (s.1.getD 0 .undef)) hEq)
  have e1 : plain = plain' := d_inj (t := (.slice (.int .u8))) (congrArg (fun s : List AVal × List Ent => (s.1.getD 1 .undef)) hEq)
  have e2 : more = more' := d_inj (t := (.arr 8 (.int .u8))) (congrArg (fun s : List AVal × List Ent => (s.1.getD 2 .undef)) hEq)
  rw [e0, e1, e2]
noncomputable def ltagged.E : Entry := Entry.of [some (.arr 32 (.int .u8)), some (.slice (.int .u8)), some (.arr 8 (.int .u8))] ltagged.st ltagged.Pre (fun d => ltagged.add d (ltagged.F d)) ltagged.out
noncomputable def ltagged.call : ltagged.D → Option ltagged.X := fun d => ltagged.E.run (ltagged.st d).1 (ltagged.st d).2
theorem ltagged.run {d : ltagged.D} (h : ltagged.Pre d) : ltagged.call d = some (ltagged.add d (ltagged.F d)) := Entry.of_run ltagged.inj h
theorem ltagged.does : Does Try.prog 7 ltagged.E := Does.of (by kernel_rfl) (show Sound _ ltagged.G from Sound.cons small9.does (Sound.cons sseal.does (Sound.cons htag.does (Sound.cons sopen.does (Sound.nil _))))) (by kernel_rfl) (by kernel_rfl) (by kernel_rfl) (LOk.fn 1 (by kernel_rfl) (And.intro (LDo.of (by kernel_rfl) ltagged.L0.ok) trivial)) ltagged.ok

end Go.Ab
