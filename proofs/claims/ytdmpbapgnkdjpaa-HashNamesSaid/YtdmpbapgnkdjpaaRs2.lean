/-
  Made by a program of mine (wip/gen), and by hand.
-/
import Derived.Test.YtdmpbapgnkdjpaaRs1
namespace Go.Ab
open Go.Proofs
set_option maxRecDepth 100000
set_option linter.unusedVariables false
set_option linter.unusedSimpArgs false

/-! ### corsned/corsnedref09.Seal -/
abbrev r9seal.D := (List Int) × (List Int)
def r9seal.st : r9seal.D → List AVal × List Ent := fun (key, plain) => ([.d (.arr 32 (.int .u8)) key, .d (.slice (.int .u8)) plain], [])
abbrev r9seal.Y := (List Int)
abbrev r9seal.X := (List Int)
def r9seal.out : r9seal.X → GRes := fun x => ⟨.d (.slice (.int .u8)) x, [], []⟩
def r9seal.add : r9seal.D → r9seal.Y → r9seal.X := fun (key, plain) y => y


def r9seal.Pre : r9seal.D → Prop := fun (key, b) => key.length = 32
def r9seal.F : r9seal.D → r9seal.Y := fun (key, b) => if 65536 < b.length then [] else sld key b

noncomputable def r9seal.G : Gam := gcons 17 anyArgs r9stream.E (gcons 33 anyArgs r9over.E (gcons 30 anyArgs rtag.E (gnil)))
noncomputable def r9seal.an : Ann := {
  objs := [],
  loops := fun r => { keep := [], sites := [], frz := [], data := [], owns := [] },
  outs := fun r b => { keep := [], sites := [], frz := [], data := [], owns := [] },
  sums := fun r => none,
  owns := [],
  trim := [],
  res := [some (.slice (.int .u8))] }
theorem r9seal.eq {R : Type} (key : (List Int)) (plain : (List Int)) (k : GRes → Option R) : arun Try.prog r9seal.G r9seal.an 0 Try.f19 (r9seal.st (key, plain)).1 (r9seal.st (key, plain)).2 k =
  sel ((igt (((List.length plain) : Nat) : Int) (65536 : Int))) (
   k (r9seal.out ([] : List Int))) (
   obind (r9stream.call (key, (((List.length plain) : Nat) : Int))) fun x1 =>
   obind (r9over.call (plain, x1)) fun x2 =>
   sel (decide (0 = 0 ∧ (0 + x2.1) ≤ (List.length x2.2))) (
   obind (rtag.call ((⟨#[115, 101, 97, 108]⟩ : ByteArray), [(cut key 0 32), (cut x2.2 0 x2.1)])) fun x3 =>
   sel (decide (some 32 = some (List.length x3) ∧ 0 = 0)) (
   sel (decide (0 = 0 ∧ 8 ≤ (List.length x3))) (
   sel (decide (x2.1 ≤ (List.length x2.2))) (
   sel (decide (x2.1 = (List.length x2.2))) (
   sel (roomA (x2.1 + (List.length (cut x3 0 8))) 1) (
   sel (decide (0 = 0 ∧ (0 + (x2.1 + (List.length (cut x3 0 8)))) ≤ (List.length ((List.take x2.1 x2.2) ++ (cut x3 0 8))))) (
   k (r9seal.out (cut ((List.take x2.1 x2.2) ++ (cut x3 0 8)) 0 (x2.1 + (List.length (cut x3 0 8)))))) none) none) none) none) none) none) none) := by kernel_rfl


theorem xor_comm8 (x y : Int) : bitop .xor .u8 x y = bitop .xor .u8 y x := by
  unfold bitop
  simp only
  rw [BitVec.xor_comm]
theorem ovr_get (a b : List Int) (i : Nat) (h : i < (ovr a b).length) (h1 : i < a.length) (h2 : i < b.length) : (ovr a b)[i] = bitop .xor .u8 a[i] b[i] := by simp [ovr]
theorem ovr_ov (key b : List Int) : ovr b (strmT key b.length) = ov key b := by
  have hl : b.length ≤ (strmT key b.length).length := by rw [strmT_length]; omega
  apply List.ext_getElem (by rw [ovr_length hl, ov_length])
  intro i h1 h2
  rw [ov_length] at h2
  rw [ov_get key b i h2, ovr_get _ _ i h1 h2 (by rw [strmT_length]; exact h2), xor_comm8]
theorem sl_pre {key : List Int} (hk : key.length = 32) {b : List Int} (hb : b.length ≤ 1000000) : rtag.Pre ((⟨#[115, 101, 97, 108]⟩ : ByteArray), [key, b]) := by
  show (tagb _ _).length ≤ _
  rw [tagb_length]
  simp only [tagp, List.flatMap_cons, List.flatMap_nil, List.length_append, be8_length, bytesOfStr_length, List.append_nil]
  show 8 + 4 + _ ≤ _
  omega
theorem r9seal.ok : ∀ d, r9seal.Pre d → arun Try.prog r9seal.G r9seal.an 0 Try.f19 (r9seal.st d).1 (r9seal.st d).2 some = some (r9seal.out (r9seal.add d (r9seal.F d))) := by
  rintro ⟨key, b⟩ hk
  have hk : key.length = 32 := hk
  simp only [r9seal.add, r9seal.F]
  rw [r9seal.eq]
  by_cases h : 65536 < b.length
  · rw [if_pos h]
    simp (disch := omega) only [↓N.lt, ↓N.le, ↓N.gt, ↓N.ge, ↓N.eq, ↓N.ne, ↓N.ib, ↓N.ic, ↓N.nn, ↓N.nz, ↓N.dc, ↓N.rm, ↓N.an, ↓N.or, ↓N.no, ↓if_pos, ↓if_neg, ↓sel_true, ↓sel_false, ↓obind_some, if_pos, if_neg, obind_some, N.aNN, N.aNL, N.aLN, N.sNN, N.sNL, N.sLN, N.mNN, N.mNL, N.mLN, N.qNN, N.qNL, N.rNN, N.rNL, N.cN, N.cL, N.tL, Int.toNat_natCast, if_true, if_false, and_self, true_and, and_true]
  rw [if_neg h]
  have hs := r9stream.in (n := b.length) hk (by omega)
  have p1 : r9over.Pre (b, strmT key b.length) := ⟨by show _ ≤ (strmT _ _).length; rw [strmT_length]; omega, by show b.length ≤ _; omega⟩
  have c1 : cut key 0 32 = key := cut_all key 32 (by omega)
  have c2 : cut (ov key b) 0 b.length = ov key b := cut_all _ _ (by rw [ov_length]; omega)
  have p2 : rtag.Pre ((⟨#[115, 101, 97, 108]⟩ : ByteArray), [key, ov key b]) := sl_pre hk (by rw [ov_length]; omega)
  have e2 : rtag.add ((⟨#[115, 101, 97, 108]⟩ : ByteArray), [key, ov key b]) (rtag.F ((⟨#[115, 101, 97, 108]⟩ : ByteArray), [key, ov key b])) = tag lname [key, ov key b] := rfl
  have c3 : cut (tag lname [key, ov key b]) 0 8 = mk8 key (ov key b) := rfl
  have hl := ov_length key b
  have e3 : (ov key b ++ mk8 key (ov key b)).length = b.length + 8 := by rw [List.length_append, hl, mk8_length]
  simp (disch := omega) only [↓N.lt, ↓N.le, ↓N.gt, ↓N.ge, ↓N.eq, ↓N.ne, ↓N.ib, ↓N.ic, ↓N.nn, ↓N.nz, ↓N.dc, ↓N.rm, ↓N.an, ↓N.or, ↓N.no, ↓if_pos, ↓if_neg, ↓sel_true, ↓sel_false, ↓obind_some, if_pos, if_neg, obind_some, N.aNN, N.aNL, N.aLN, N.sNN, N.sNL, N.sLN, N.mNN, N.mNL, N.mLN, N.qNN, N.qNL, N.rNN, N.rNL, N.cN, N.cL, N.tL, Int.toNat_natCast, if_true, if_false, and_self, true_and, and_true, hs, r9over.run p1, r9over.add, r9over.F, ovr_ov, Nat.zero_add, c1, c2, rtag.run p2, e2, c3, tag_length, mk8_length, hl, List.take_of_length_le (Nat.le_of_eq hl), e3, cut_all _ _ (Nat.le_of_eq e3)]
  rfl

theorem r9seal.inj : ∀ d d', r9seal.st d = r9seal.st d' → d = d' := fun (key, plain) (key', plain') hEq => by
  have e0 : key = key' := d_inj (t := (.arr 32 (.int .u8))) (congrArg (fun s : List AVal × List Ent => (s.1.getD 0 .undef)) hEq)
  have e1 : plain = plain' := d_inj (t := (.slice (.int .u8))) (congrArg (fun s : List AVal × List Ent => (s.1.getD 1 .undef)) hEq)
  rw [e0, e1]
noncomputable def r9seal.E : Entry := Entry.of [some (.arr 32 (.int .u8)), some (.slice (.int .u8))] r9seal.st r9seal.Pre (fun d => r9seal.add d (r9seal.F d)) r9seal.out
noncomputable def r9seal.call : r9seal.D → Option r9seal.X := fun d => r9seal.E.run (r9seal.st d).1 (r9seal.st d).2
theorem r9seal.run {d : r9seal.D} (h : r9seal.Pre d) : r9seal.call d = some (r9seal.add d (r9seal.F d)) := Entry.of_run r9seal.inj h
theorem r9seal.does : Does Try.prog 19 r9seal.E := Does.of (by kernel_rfl) (show Sound _ r9seal.G from Sound.cons r9stream.does (Sound.cons r9over.does (Sound.cons rtag.does (Sound.nil _)))) (by kernel_rfl) (by kernel_rfl) (by kernel_rfl) (LOk.fn 0 (by kernel_rfl) trivial) r9seal.ok


theorem r9seal.in {key b : List Int} (hk : key.length = 32) (h : b.length ≤ 65536) : r9seal.call (key, b) = some (sld key b) := by
  rw [r9seal.run (show r9seal.Pre (key, b) from hk)]
  simp only [r9seal.add, r9seal.F]
  rw [if_neg (by omega)]

/-! ### corsned/corsnedref09.Open -/
abbrev r9open.D := (List Int) × (List Int)
def r9open.st : r9open.D → List AVal × List Ent := fun (key, sealed) => ([.d (.arr 32 (.int .u8)) key, .d (.slice (.int .u8)) sealed], [])
abbrev r9open.Y := (List Int) × Bool
abbrev r9open.X := (List Int) × Bool
def r9open.out : r9open.X → GRes := fun x => ⟨.cons (.d (.slice (.int .u8)) x.1) (.cons (.d .bool x.2) (.nil)), [], []⟩
def r9open.add : r9open.D → r9open.Y → r9open.X := fun (key, sealed) y => y


def r9open.Pre : r9open.D → Prop := fun (key, s) => key.length = 32 ∧ Bytes s ∧ s.length ≤ 1000000
def r9open.F : r9open.D → r9open.Y := fun (key, s) => if opn key s then (ov key (s.take (s.length - 8)), true) else ([], false)

noncomputable def r9open.G : Gam := gcons 17 anyArgs r9stream.E (gcons 33 anyArgs r9over.E (gcons 19 anyArgs r9seal.E (gnil)))
noncomputable def r9open.an : Ann := {
  objs := [],
  loops := fun r => { keep := [], sites := [], frz := [], data := [], owns := [] },
  outs := fun r b => { keep := [], sites := [], frz := [], data := [], owns := [] },
  sums := fun r => none,
  owns := [],
  trim := [],
  res := [some (.slice (.int .u8)), none] }
theorem r9open.eq {R : Type} (key : (List Int)) (sealed : (List Int)) (k : GRes → Option R) : arun Try.prog r9open.G r9open.an 0 Try.f15 (r9open.st (key, sealed)).1 (r9open.st (key, sealed)).2 k =
  sel ((ilt (isub .i64 (((List.length sealed) : Nat) : Int) (8 : Int)) (0 : Int))) (
   k (r9open.out (([] : List Int), false))) (
   sel ((igt (isub .i64 (((List.length sealed) : Nat) : Int) (8 : Int)) (65536 : Int))) (
    k (r9open.out (([] : List Int), false))) (
    sel (inc (isub .i64 (((List.length sealed) : Nat) : Int) (8 : Int)) (((List.length sealed) : Nat) : Int)) (
    obind (r9stream.call (key, (isub .i64 (((List.length sealed) : Nat) : Int) (8 : Int)))) fun x1 =>
    obind (r9over.call ((cut sealed 0 ((Int.toNat (isub .i64 (((List.length sealed) : Nat) : Int) (8 : Int))) - 0)), x1)) fun x2 =>
    sel (decide (0 = 0 ∧ (0 + x2.1) ≤ (List.length x2.2))) (
    obind (r9seal.call (key, (cut x2.2 0 x2.1))) fun x3 =>
    sel ((sne (strOfBytes x3) (strOfBytes sealed))) (
     k (r9open.out (([] : List Int), false))) (
     sel (decide (0 = 0 ∧ (0 + x2.1) ≤ (List.length x2.2))) (
     k (r9open.out ((cut x2.2 0 x2.1), true))) none)) none) none)) := by kernel_rfl


theorem sne_of {x y : List Int} (hx : Bytes x) (hy : Bytes y) : sne (strOfBytes x) (strOfBytes y) = !decide (x = y) := by
  have := seq_bytes hx hy
  unfold seq at this
  unfold sne
  rw [this]
theorem r9open.ok : ∀ d, r9open.Pre d → arun Try.prog r9open.G r9open.an 0 Try.f15 (r9open.st d).1 (r9open.st d).2 some = some (r9open.out (r9open.add d (r9open.F d))) := by
  rintro ⟨key, s⟩ ⟨hk, hs, hl⟩
  have hk : key.length = 32 := hk
  have hl : s.length ≤ 1000000 := hl
  simp only [r9open.add, r9open.F]
  rw [r9open.eq]
  by_cases h1 : s.length < 8
  · have e1 : isub .i64 ((s.length : Nat) : Int) 8 = (s.length : Int) - 8 := isub_i64 (by omega) (by omega)
    have e2 : opn key s = false := dec_false fun h => by omega
    rw [e1, e2]
    simp (disch := omega) only [↓N.lt, ↓N.le, ↓N.gt, ↓N.ge, ↓N.eq, ↓N.ne, ↓N.ib, ↓N.ic, ↓N.nn, ↓N.nz, ↓N.dc, ↓N.rm, ↓N.an, ↓N.or, ↓N.no, ↓if_pos, ↓if_neg, ↓sel_true, ↓sel_false, ↓obind_some, if_pos, if_neg, obind_some, N.aNN, N.aNL, N.aLN, N.sNN, N.sNL, N.sLN, N.mNN, N.mNL, N.mLN, N.qNN, N.qNL, N.rNN, N.rNL, N.cN, N.cL, N.tL, Int.toNat_natCast, if_true, if_false, and_self, true_and, and_true, Bool.false_eq_true]
  by_cases h2 : 65544 < s.length
  · have e2 : opn key s = false := dec_false fun h => by omega
    rw [e2]
    simp (disch := omega) only [↓N.lt, ↓N.le, ↓N.gt, ↓N.ge, ↓N.eq, ↓N.ne, ↓N.ib, ↓N.ic, ↓N.nn, ↓N.nz, ↓N.dc, ↓N.rm, ↓N.an, ↓N.or, ↓N.no, ↓if_pos, ↓if_neg, ↓sel_true, ↓sel_false, ↓obind_some, if_pos, if_neg, obind_some, N.aNN, N.aNL, N.aLN, N.sNN, N.sNL, N.sLN, N.mNN, N.mNL, N.mLN, N.qNN, N.qNL, N.rNN, N.rNL, N.cN, N.cL, N.tL, Int.toNat_natCast, if_true, if_false, and_self, true_and, and_true, Bool.false_eq_true]
  have ht : (s.take (s.length - 8)).length = s.length - 8 := by rw [List.length_take]; omega
  have hst := r9stream.in (n := s.length - 8) hk (by omega)
  have c0 : cut s 0 (s.length - 8) = s.take (s.length - 8) := rfl
  have p1 : r9over.Pre (s.take (s.length - 8), strmT key (s.length - 8)) := ⟨by show (s.take _).length ≤ (strmT _ _).length; rw [strmT_length]; omega, by show (s.take _).length ≤ _; omega⟩
  have e3 : ovr (s.take (s.length - 8)) (strmT key (s.length - 8)) = ov key (s.take (s.length - 8)) := by
    have := ovr_ov key (s.take (s.length - 8))
    rw [ht] at this
    exact this
  have hol := ov_length key (s.take (s.length - 8))
  have c1 : cut (ov key (s.take (s.length - 8))) 0 (s.length - 8) = ov key (s.take (s.length - 8)) := cut_all _ _ (by omega)
  have hse := r9seal.in (key := key) (b := ov key (s.take (s.length - 8))) hk (by omega)
  have hby := bytes_take (s.length - 8) hs
  have hne := sne_of (bytes_sld (key := key) (bytes_ov (key := key) hby)) hs
  have e4 : (sld key (ov key (s.take (s.length - 8))) = s) ↔ opn key s = true := by
    unfold sld
    rw [ov_ov hby]
    unfold opn
    rw [decide_eq_true_iff]
    refine ⟨fun h => ⟨by omega, by omega, ?_⟩, fun h => ?_⟩
    · have h3 : s.take (s.length - 8) ++ mk8 key (s.take (s.length - 8)) = s.take (s.length - 8) ++ s.drop (s.length - 8) := by rw [h, List.take_append_drop]
      exact List.append_cancel_left h3
    · rw [h.2.2, List.take_append_drop]
  simp (disch := omega) only [↓N.lt, ↓N.le, ↓N.gt, ↓N.ge, ↓N.eq, ↓N.ne, ↓N.ib, ↓N.ic, ↓N.nn, ↓N.nz, ↓N.dc, ↓N.rm, ↓N.an, ↓N.or, ↓N.no, ↓if_pos, ↓if_neg, ↓sel_true, ↓sel_false, ↓obind_some, if_pos, if_neg, obind_some, N.aNN, N.aNL, N.aLN, N.sNN, N.sNL, N.sLN, N.mNN, N.mNL, N.mLN, N.qNN, N.qNL, N.rNN, N.rNL, N.cN, N.cL, N.tL, Int.toNat_natCast, if_true, if_false, and_self, true_and, and_true, Nat.sub_zero, c0, hst, r9over.run p1, r9over.add, r9over.F, e3, ht, Nat.zero_add, c1, hse, hne, hol]
  by_cases h : opn key s = true
  · rw [if_pos (e4.2 h), if_pos h]
  · rw [if_neg fun h5 => h (e4.1 h5), if_neg h]

theorem r9open.inj : ∀ d d', r9open.st d = r9open.st d' → d = d' := fun (key, sealed) (key', sealed') hEq => by
  have e0 : key = key' := d_inj (t := (.arr 32 (.int .u8))) (congrArg (fun s : List AVal × List Ent => (s.1.getD 0 .undef)) hEq)
  have e1 : sealed = sealed' := d_inj (t := (.slice (.int .u8))) (congrArg (fun s : List AVal × List Ent => (s.1.getD 1 .undef)) hEq)
  rw [e0, e1]
noncomputable def r9open.E : Entry := Entry.of [some (.arr 32 (.int .u8)), some (.slice (.int .u8))] r9open.st r9open.Pre (fun d => r9open.add d (r9open.F d)) r9open.out
noncomputable def r9open.call : r9open.D → Option r9open.X := fun d => r9open.E.run (r9open.st d).1 (r9open.st d).2
theorem r9open.run {d : r9open.D} (h : r9open.Pre d) : r9open.call d = some (r9open.add d (r9open.F d)) := Entry.of_run r9open.inj h
theorem r9open.does : Does Try.prog 15 r9open.E := Does.of (by kernel_rfl) (show Sound _ r9open.G from Sound.cons r9stream.does (Sound.cons r9over.does (Sound.cons r9seal.does (Sound.nil _)))) (by kernel_rfl) (by kernel_rfl) (by kernel_rfl) (LOk.fn 0 (by kernel_rfl) trivial) r9open.ok

/-! ### corsned/corsnedlaw09.SealTells -/
abbrev ltells.D := (List Int) × (List Int) × (List Int) × Int
def ltells.st : ltells.D → List AVal × List Ent := fun (key, plain, sealed, n) => ([.d (.arr 32 (.int .u8)) key, .d (.slice (.int .u8)) plain, .d (.slice (.int .u8)) sealed, .d (.int .i64) n], [])
abbrev ltells.Y := Bool
abbrev ltells.X := Bool
def ltells.out : ltells.X → GRes := fun x => ⟨.d .bool x, [], []⟩
def ltells.add : ltells.D → ltells.Y → ltells.X := fun (key, plain, sealed, n) y => y


def ltells.Pre : ltells.D → Prop := fun (key, a, s, n) => key.length = 32 ∧ Bytes a ∧ Bytes s ∧ -9223372036854775808 ≤ n ∧ n ≤ 9223372036854775807
def ltells.F : ltells.D → ltells.Y := fun _ => true

noncomputable def ltells.G : Gam := gcons 13 anyArgs small9.E (gcons 14 anyArgs sopen.E (gcons 15 anyArgs r9open.E (gcons 16 anyArgs sstream.E (gcons 17 anyArgs r9stream.E (gcons 18 anyArgs sseal.E (gcons 19 anyArgs r9seal.E (gnil)))))))
noncomputable def ltells.an : Ann := {
  objs := [],
  loops := fun r => { keep := [], sites := [], frz := [], data := [], owns := [] },
  outs := fun r b => { keep := [], sites := [], frz := [], data := [], owns := [] },
  sums := fun r => none,
  owns := [],
  trim := [],
  res := [] }
theorem ltells.eq {R : Type} (key : (List Int)) (plain : (List Int)) (sealed : (List Int)) (n : Int) (k : GRes → Option R) : arun Try.prog ltells.G ltells.an 0 Try.f3 (ltells.st (key, plain, sealed, n)).1 (ltells.st (key, plain, sealed, n)).2 k =
  obind (small9.call ()) fun x1 =>
  sel ((igt (((List.length plain) : Nat) : Int) (1000 : Int))) (
   k (ltells.out x1)) (
   sel ((igt (((List.length sealed) : Nat) : Int) (1000 : Int))) (
    k (ltells.out x1)) (
    sel ((igt n (1000 : Int))) (
     sel ((ile n (65536 : Int))) (
      k (ltells.out x1)) (
      obind (sopen.call (key, sealed)) fun x2 =>
      obind (r9open.call (key, sealed)) fun x3 =>
      sel (x1) (
       obind (sstream.call (key, n)) fun x4 =>
       sel (decide (0 = 0 ∧ (0 + x4.1) ≤ (List.length x4.2))) (
       obind (r9stream.call (key, n)) fun x5 =>
       sel ((seq (strOfBytes (cut x4.2 0 x4.1)) (strOfBytes x5))) (
        obind (sseal.call (key, plain)) fun x6 =>
        obind (r9seal.call (key, plain)) fun x7 =>
        sel ((seq (strOfBytes x6) (strOfBytes x7))) (
         sel (decide (0 = 0 ∧ (0 + x2.1) ≤ (List.length x2.2.2))) (
         sel ((seq (strOfBytes (cut x2.2.2 0 x2.1)) (strOfBytes x3.1))) (
          k (ltells.out (Ty.beq .bool x2.2.1 x3.2))) (
          k (ltells.out false))) none) (
         k (ltells.out false))) (
        k (ltells.out false))) none) (
       k (ltells.out false)))) (
     obind (sopen.call (key, sealed)) fun x8 =>
     obind (r9open.call (key, sealed)) fun x9 =>
     sel (x1) (
      obind (sstream.call (key, n)) fun x10 =>
      sel (decide (0 = 0 ∧ (0 + x10.1) ≤ (List.length x10.2))) (
      obind (r9stream.call (key, n)) fun x11 =>
      sel ((seq (strOfBytes (cut x10.2 0 x10.1)) (strOfBytes x11))) (
       obind (sseal.call (key, plain)) fun x12 =>
       obind (r9seal.call (key, plain)) fun x13 =>
       sel ((seq (strOfBytes x12) (strOfBytes x13))) (
        sel (decide (0 = 0 ∧ (0 + x8.1) ≤ (List.length x8.2.2))) (
        sel ((seq (strOfBytes (cut x8.2.2 0 x8.1)) (strOfBytes x9.1))) (
         k (ltells.out (Ty.beq .bool x8.2.1 x9.2))) (
         k (ltells.out false))) none) (
        k (ltells.out false))) (
       k (ltells.out false))) none) (
      k (ltells.out false))))) := by kernel_rfl


theorem beq_bool (x : Bool) : Ty.beq .bool x x = true := by cases x <;> rfl
theorem ltells.ok : ∀ d, ltells.Pre d → arun Try.prog ltells.G ltells.an 0 Try.f3 (ltells.st d).1 (ltells.st d).2 some = some (ltells.out (ltells.add d (ltells.F d))) := by
  rintro ⟨key, a, s, n⟩ ⟨hk, ha, hs, hn1, hn2⟩
  have hk : key.length = 32 := hk
  have e1 : small9.add () (small9.F ()) = true := rfl
  rw [ltells.eq, small9.run trivial, e1]
  simp only [obind_some]
  by_cases h1 : 1000 < a.length
  · rw [igt_true (by omega)]; rfl
  rw [igt_false (by omega), sel_false]
  by_cases h2 : 1000 < s.length
  · rw [igt_true (by omega)]; rfl
  rw [igt_false (by omega), sel_false]
  have p1 : sopen.Pre (key, s) := ⟨hk, by show s.length ≤ _; omega⟩
  have p2 : r9open.Pre (key, s) := ⟨hk, hs, by show s.length ≤ _; omega⟩
  have p3 : sstream.Pre (key, n) := hk
  have p4 : r9stream.Pre (key, n) := hk
  have p5 : sseal.Pre (key, a) := hk
  have q5 := r9seal.in (b := a) hk (by omega)
  have g : ∀ x, seq x x = true := seq_self
  have e5 : sseal.add (key, a) (sseal.F (key, a)) = sld key a := sseal_add (by omega)
  -- streams
  have w : (sstream.add (key, n) (sstream.F (key, n))).1 ≤ (sstream.add (key, n) (sstream.F (key, n))).2.length ∧ cut (sstream.add (key, n) (sstream.F (key, n))).2 0 (sstream.add (key, n) (sstream.F (key, n))).1 = r9stream.add (key, n) (r9stream.F (key, n)) := by
    simp only [sstream.add, sstream.F, r9stream.add, r9stream.F]
    split
    · exact ⟨Nat.le_refl _, rfl⟩
    · simp only [strmT_length]
      exact ⟨Nat.le_refl _, cut_all _ _ (by rw [strmT_length]; omega)⟩
  -- openings
  have v : (sopen.add (key, s) (sopen.F (key, s))).1 ≤ (sopen.add (key, s) (sopen.F (key, s))).2.2.length ∧ cut (sopen.add (key, s) (sopen.F (key, s))).2.2 0 (sopen.add (key, s) (sopen.F (key, s))).1 = (r9open.add (key, s) (r9open.F (key, s))).1 ∧ (sopen.add (key, s) (sopen.F (key, s))).2.1 = (r9open.add (key, s) (r9open.F (key, s))).2 := by
    simp only [sopen.add, sopen.F, r9open.add, r9open.F]
    by_cases h : opn key s = true
    · have hol := ov_length key (s.take (s.length - 8))
      have ht : (s.take (s.length - 8)).length = s.length - 8 := by rw [List.length_take]; omega
      rw [if_pos h, if_pos h]
      exact ⟨Nat.le_of_eq (hol.trans ht).symm, cut_all _ _ (Nat.le_of_eq (hol.trans ht)), rfl⟩
    · rw [if_neg h, if_neg h]
      exact ⟨Nat.le_refl _, rfl, rfl⟩
  obtain ⟨w1, w2⟩ := w
  obtain ⟨v1, v2, v3⟩ := v
  rw [sopen.run p1, r9open.run p2, sstream.run p3, r9stream.run p4, sseal.run p5, q5, e5]
  generalize sopen.add (key, s) (sopen.F (key, s)) = x at v1 v2 v3
  generalize r9open.add (key, s) (r9open.F (key, s)) = y at v2 v3
  generalize sstream.add (key, n) (sstream.F (key, n)) = z at w1 w2
  generalize r9stream.add (key, n) (r9stream.F (key, n)) = u at w2
  simp only [obind_some, sel_true, Nat.zero_add, w2, v2, v3, g, beq_bool, true_and, dec_true w1, dec_true v1]
  cases igt n 1000 <;> cases ile n 65536 <;> rfl

theorem ltells.inj : ∀ d d', ltells.st d = ltells.st d' → d = d' := fun (key, plain, sealed, n) (key', plain', sealed', n') hEq => by
  have e0 : key = key' := d_inj (t := (.arr 32 (.int .u8))) (congrArg (fun s : List AVal × List Ent => (s.1.getD 0 .undef)) hEq)
  have e1 : plain = plain' := d_inj (t := (.slice (.int .u8))) (congrArg (fun s : List AVal × List Ent => (s.1.getD 1 .undef)) hEq)
  have e2 : sealed = sealed' := d_inj (t := (.slice (.int .u8))) (congrArg (fun s : List AVal × List Ent => (s.1.getD 2 .undef)) hEq)
  have e3 : n = n' := d_inj (t := (.int .i64)) (congrArg (fun s : List AVal × List Ent => (s.1.getD 3 .undef)) hEq)
  rw [e0, e1, e2, e3]
noncomputable def ltells.E : Entry := Entry.of [some (.arr 32 (.int .u8)), some (.slice (.int .u8)), some (.slice (.int .u8)), some (.int .i64)] ltells.st ltells.Pre (fun d => ltells.add d (ltells.F d)) ltells.out
noncomputable def ltells.call : ltells.D → Option ltells.X := fun d => ltells.E.run (ltells.st d).1 (ltells.st d).2
theorem ltells.run {d : ltells.D} (h : ltells.Pre d) : ltells.call d = some (ltells.add d (ltells.F d)) := Entry.of_run ltells.inj h
theorem ltells.does : Does Try.prog 3 ltells.E := Does.of (by kernel_rfl) (show Sound _ ltells.G from Sound.cons small9.does (Sound.cons sopen.does (Sound.cons r9open.does (Sound.cons sstream.does (Sound.cons r9stream.does (Sound.cons sseal.does (Sound.cons r9seal.does (Sound.nil _)))))))) (by kernel_rfl) (by kernel_rfl) (by kernel_rfl) (LOk.fn 0 (by kernel_rfl) trivial) ltells.ok

end Go.Ab
