/-
  Made by a program of mine (wip/gen), and by hand.
-/
import Derived.Test.YtdmpbapgnkdjpaaHb2
namespace Go.Ab
open Go.Proofs
set_option maxRecDepth 100000
set_option linter.unusedVariables false
set_option linter.unusedSimpArgs false

/-! ### corsned/corsnedref04.Hex -/
abbrev rhex.L0.D := (List Int) × Nat × Int × (List Int)
def rhex.L0.st : rhex.L0.D → AS := fun (h_2, outL, i, n21) => ⟨[.undef, .rptr (.arr 32 (.int .u8)) h_2, .undef, .sref (.new 21 0) 0 [] 0 0 outL, .d (.int .i64) i, .undef, .undef, .undef, .undef, .undef, .undef, .undef, .undef, .undef, .undef, .undef, .undef, .undef, .undef, .undef, .undef, .undef, .undef, .undef], [], [[], [], [], [], [], [], [], [], [], [], [], [], [], [], [], [], [], [], [], [], [], [.obj 0 false (.vec 5 (.int .u8) n21)], [], []]⟩
abbrev rhex.L0.Y0 := Nat × (List Int)  -- outL, n21
abbrev rhex.L0.X0 := Nat × (List Int)
def rhex.L0.ex0 : rhex.L0.X0 → Exit × AS := fun x => (.exit 0, ⟨[.undef, .undef, .undef, .sref (.new 21 0) 0 [] 0 0 x.1, .undef, .undef, .undef, .undef, .undef, .undef, .undef, .undef, .undef, .undef, .undef, .undef, .undef, .undef, .undef, .undef, .undef, .undef, .undef, .undef], [], [[], [], [], [], [], [], [], [], [], [], [], [], [], [], [], [], [], [], [], [], [], [.obj 0 false (.vec 5 (.int .u8) x.2)], [], []]⟩)
abbrev rhex.L0.X := rhex.L0.X0
abbrev rhex.L0.Y := rhex.L0.Y0
def rhex.L0.out : rhex.L0.X → Out (Exit × AS) := fun x => .ok (rhex.L0.ex0 x)
def rhex.L0.add : rhex.L0.D → rhex.L0.Y → rhex.L0.X := fun (h_2, outL, i, n21) y => y
abbrev rhex.D := (List Int)
def rhex.st : rhex.D → List AVal × List Ent := fun h => ([.d (.arr 32 (.int .u8)) h], [])
abbrev rhex.Y := ByteArray
abbrev rhex.X := ByteArray
def rhex.out : rhex.X → GRes := fun x => ⟨.d .str x, [], []⟩
def rhex.add : rhex.D → rhex.Y → rhex.X := fun h y => y


def rhex.L0.Pre : rhex.L0.D → Prop := fun (h, m, i, l) => h.length = 32 ∧ Bytes h ∧ ∃ k : Nat, k ≤ 32 ∧ i = k ∧ 2 * k = m ∧ l = hexB (h.take k)
def rhex.L0.F : rhex.L0.D → rhex.L0.Y := fun (h, m, i, l) => (64, hexB h)
def rhex.Pre : rhex.D → Prop := fun h => h.length = 32 ∧ Bytes h
def rhex.F : rhex.D → rhex.Y := fun h => strOfBytes (hexB h)

noncomputable def rhex.G : Gam := gnil
noncomputable def rhex.L0.E : LEntry := LEntry.of rhex.L0.st rhex.L0.Pre (fun d => rhex.L0.add d (rhex.L0.F d)) rhex.L0.out
noncomputable def rhex.L0.call : rhex.L0.D → Option rhex.L0.X := fun d => rhex.L0.E.run (rhex.L0.st d)
noncomputable def rhex.an : Ann := {
  objs := [],
  loops := fun r => bif Nat.beq r 3 then { keep := [1, 3, 4], sites := [21], frz := [], data := [], owns := [⟨3, [], 21, 24⟩] } else { keep := [], sites := [], frz := [], data := [], owns := [] },
  outs := fun r b => bif Nat.beq r 3 then (bif b then { keep := [2], sites := [], frz := [], data := [], owns := [] } else { keep := [3], sites := [21], frz := [], data := [], owns := [] }) else { keep := [], sites := [], frz := [], data := [], owns := [] },
  sums := fun r => bif Nat.beq r 3 then some rhex.L0.E else none,
  owns := [],
  trim := [],
  res := [] }
theorem rhex.L0.inj : ∀ d d', rhex.L0.st d = rhex.L0.st d' → d = d' := fun (h_2, outL, i, n21) (h_2', outL', i', n21') hEq => by
  have e0 : h_2 = h_2' := rptr_inj (t := (.arr 32 (.int .u8))) (congrArg (fun s : AS => (s.slot 1)) hEq)
  have e1 : outL = outL' := congrArg (fun s : AS => srefLen (s.slot 3)) hEq
  have e2 : i = i' := d_inj (t := (.int .i64)) (congrArg (fun s : AS => (s.slot 4)) hEq)
  have e3 : n21 = n21' := vec_inj (e := 5) (t := (.int .u8)) (congrArg (fun s : AS => (entC (s.ent (.new 21 0)))) hEq)
  rw [e0, e1, e2, e3]
theorem rhex.L0.run {d : rhex.L0.D} (h : rhex.L0.Pre d) : rhex.L0.call d = some (rhex.L0.add d (rhex.L0.F d)) := LEntry.of_run rhex.L0.inj h
theorem rhex.L0.byRounds (μ : rhex.L0.D → Nat) (h : ∀ d, rhex.L0.Pre d → (∃ d', rhex.L0.Pre d' ∧ μ d' < μ d ∧ rhex.L0.add d' (rhex.L0.F d') = rhex.L0.add d (rhex.L0.F d) ∧ ∀ {R : Type} (kn : AS → Option R) (kx : Exit → AS → Option R), lround Try.prog rhex.G rhex.an 0 Try.f29 0 (rhex.L0.st d) kn kx = kn (rhex.L0.st d')) ∨ (∀ {R : Type} (kn : AS → Option R) (kx : Exit → AS → Option R), lround Try.prog rhex.G rhex.an 0 Try.f29 0 (rhex.L0.st d) kn kx = kx (rhex.L0.ex0 (rhex.L0.add d (rhex.L0.F d))).1 (rhex.L0.ex0 (rhex.L0.add d (rhex.L0.F d))).2)) : ∀ d, rhex.L0.Pre d → ∃ n, lrun Try.prog rhex.G rhex.an 0 Try.f29 0 n (rhex.L0.st d) (fun e s => some (e, s)) = (rhex.L0.out (rhex.L0.add d (rhex.L0.F d))).eval := lrun_one (F := fun d => rhex.L0.add d (rhex.L0.F d)) μ h
theorem rhex.L0.step {R : Type} (h_2 : (List Int)) (outL : Nat) (i : Int) (n21 : (List Int)) (kn : AS → Option R) (kx : Exit → AS → Option R) : lround Try.prog rhex.G rhex.an 0 Try.f29 0 (rhex.L0.st (h_2, outL, i, n21)) kn kx =
  sel ((ilt i (32 : Int))) (
   sel (inb i (32 : Int)) (
   sel (inb (iquo .u8 (nth (.int .u8) h_2 (Int.toNat i)) (16 : Int)) (16 : Int)) (
   sel (inb i (32 : Int)) (
   sel (inb (irem (nth (.int .u8) h_2 (Int.toNat i)) (16 : Int)) (16 : Int)) (
   sel (decide (outL ≤ (List.length n21))) (
   sel (roomA (outL + 2) 1) (
   kn (rhex.L0.st (h_2, (outL + 2), (iadd .i64 i (1 : Int)), ((List.take outL n21) ++ [(sidx (⟨#[48, 49, 50, 51, 52, 53, 54, 55, 56, 57, 97, 98, 99, 100, 101, 102]⟩ : ByteArray) (iquo .u8 (nth (.int .u8) h_2 (Int.toNat i)) (16 : Int))), (sidx (⟨#[48, 49, 50, 51, 52, 53, 54, 55, 56, 57, 97, 98, 99, 100, 101, 102]⟩ : ByteArray) (irem (nth (.int .u8) h_2 (Int.toNat i)) (16 : Int)))])))) none) none) none) none) none) none) (
   kx (rhex.L0.ex0 (outL, n21)).1 (rhex.L0.ex0 (outL, n21)).2) := by kernel_rfl
theorem rhex.eq {R : Type} (h : (List Int)) (k : GRes → Option R) : arun Try.prog rhex.G rhex.an 0 Try.f29 (rhex.st h).1 (rhex.st h).2 k =
  obind (rhex.L0.call (h, 0, (0 : Int), ([] : List Int))) fun x1 =>
  sel (decide (0 = 0 ∧ (0 + x1.1) ≤ (List.length x1.2))) (
  k (rhex.out (strOfBytes (cut x1.2 0 x1.1)))) none := by kernel_rfl


theorem hexB_length (h : List Int) : (hexB h).length = 2 * h.length := by
  unfold hexB
  induction h with
  | nil => rfl
  | cons x h ih => rw [List.flatMap_cons, List.length_append, ih]; simp only [hx, List.length_cons, List.length_nil]; omega
theorem hexB_append (a b : List Int) : hexB (a ++ b) = hexB a ++ hexB b := by unfold hexB; rw [List.flatMap_append]
theorem rhex.L0.ok : ∀ d, rhex.L0.Pre d → ∃ n, lrun Try.prog rhex.G rhex.an 0 Try.f29 0 n (rhex.L0.st d) (fun e s => some (e, s)) = (rhex.L0.out (rhex.L0.add d (rhex.L0.F d))).eval := by
  refine rhex.L0.byRounds (fun (h, m, i, l) => 32 - i.toNat) ?_
  rintro ⟨h, m, i, l⟩ ⟨hl, hb, k, hk, rfl, rfl, rfl⟩
  have hl : h.length = 32 := hl
  have hll : (hexB (h.take k)).length = 2 * k := by rw [hexB_length, List.length_take]; omega
  by_cases hlt : k < 32
  · left
    have hbk := nth_byte hb (i := k) (by omega)
    have e1 := quo16 hbk
    have e2 := rem16 hbk
    have hn : nth (.int .u8) h k = h[k]'(by omega) := nth_lt (t := .int .u8) (by omega)
    have e3 : hexB (h.take (k + 1)) = hexB (h.take k) ++ [dch (nth (.int .u8) h k / 16), dch (nth (.int .u8) h k % 16)] := by
      rw [List.take_succ_eq_append_getElem (by omega : k < h.length), hexB_append, hn]
      rfl
    have rr : ∀ x : Int, Byte x → (0 ≤ x / 16 ∧ x / 16 < 16) ∧ 0 ≤ x % 16 ∧ x % 16 < 16 := fun x ⟨h1, h2⟩ => by omega
    obtain ⟨⟨r1, r2⟩, r3, r4⟩ := rr _ hbk
    refine ⟨(h, 2 * k + 2, ((k + 1 : Nat) : Int), hexB (h.take (k + 1))), ⟨hl, hb, k + 1, by omega, rfl, by omega, rfl⟩, by simp only [Int.toNat_natCast]; omega, rfl, fun kn kx => ?_⟩
    rw [rhex.L0.step, e3]
    simp only [Int.toNat_natCast, e1, e2, inb_true r1 r2, inb_true r3 r4, sel_true, dch_eq]
    simp (disch := omega) only [↓N.lt, ↓N.le, ↓N.gt, ↓N.ge, ↓N.eq, ↓N.ne, ↓N.ib, ↓N.ic, ↓N.nn, ↓N.nz, ↓N.dc, ↓N.rm, ↓N.an, ↓N.or, ↓N.no, ↓if_pos, ↓if_neg, ↓sel_true, ↓sel_false, ↓obind_some, if_pos, if_neg, obind_some, N.aNN, N.aNL, N.aLN, N.sNN, N.sNL, N.sLN, N.mNN, N.mNL, N.mLN, N.qNN, N.qNL, N.rNN, N.rNL, N.cN, N.cL, N.tL, Int.toNat_natCast, if_true, if_false, and_self, true_and, and_true, hll, List.take_of_length_le (Nat.le_of_eq hll)]
  · right
    obtain rfl : k = 32 := by omega
    intro R kn kx
    rw [rhex.L0.step]
    simp (disch := omega) only [↓N.lt, ↓N.le, ↓N.gt, ↓N.ge, ↓N.eq, ↓N.ne, ↓N.ib, ↓N.ic, ↓N.nn, ↓N.nz, ↓N.dc, ↓N.rm, ↓N.an, ↓N.or, ↓N.no, ↓if_pos, ↓if_neg, ↓sel_true, ↓sel_false, ↓obind_some, if_pos, if_neg, obind_some, N.aNN, N.aNL, N.aLN, N.sNN, N.sNL, N.sLN, N.mNN, N.mNL, N.mLN, N.qNN, N.qNL, N.rNN, N.rNL, N.cN, N.cL, N.tL, Int.toNat_natCast, if_true, if_false, and_self, true_and, and_true, rhex.L0.add, rhex.L0.F]
    rw [List.take_of_length_le (by omega)]
theorem rhex.ok : ∀ d, rhex.Pre d → arun Try.prog rhex.G rhex.an 0 Try.f29 (rhex.st d).1 (rhex.st d).2 some = some (rhex.out (rhex.add d (rhex.F d))) := by
  rintro h ⟨hl, hb⟩
  have hl : h.length = 32 := hl
  have p1 : rhex.L0.Pre (h, 0, 0, []) := ⟨hl, hb, 0, by omega, rfl, rfl, rfl⟩
  have e1 : (hexB h).length = 64 := by rw [hexB_length]; omega
  rw [rhex.eq]
  simp (disch := omega) only [↓N.lt, ↓N.le, ↓N.gt, ↓N.ge, ↓N.eq, ↓N.ne, ↓N.ib, ↓N.ic, ↓N.nn, ↓N.nz, ↓N.dc, ↓N.rm, ↓N.an, ↓N.or, ↓N.no, ↓if_pos, ↓if_neg, ↓sel_true, ↓sel_false, ↓obind_some, if_pos, if_neg, obind_some, N.aNN, N.aNL, N.aLN, N.sNN, N.sNL, N.sLN, N.mNN, N.mNL, N.mLN, N.qNN, N.qNL, N.rNN, N.rNL, N.cN, N.cL, N.tL, Int.toNat_natCast, if_true, if_false, and_self, true_and, and_true, rhex.L0.run p1, rhex.L0.add, rhex.L0.F, e1, Nat.zero_add, cut0 e1]
  rfl

theorem rhex.inj : ∀ d d', rhex.st d = rhex.st d' → d = d' := fun h h' hEq => by
  have e0 : h = h' := d_inj (t := (.arr 32 (.int .u8))) (congrArg (fun s : List AVal × List Ent => (s.1.getD 0 .undef)) hEq)
  rw [e0]
noncomputable def rhex.E : Entry := Entry.of [some (.arr 32 (.int .u8))] rhex.st rhex.Pre (fun d => rhex.add d (rhex.F d)) rhex.out
noncomputable def rhex.call : rhex.D → Option rhex.X := fun d => rhex.E.run (rhex.st d).1 (rhex.st d).2
theorem rhex.run {d : rhex.D} (h : rhex.Pre d) : rhex.call d = some (rhex.add d (rhex.F d)) := Entry.of_run rhex.inj h
theorem rhex.does : Does Try.prog 29 rhex.E := Does.of (by kernel_rfl) (show Sound _ rhex.G from Sound.nil _) (by kernel_rfl) (by kernel_rfl) (by kernel_rfl) (LOk.fn 1 (by kernel_rfl) (And.intro (LDo.of (by kernel_rfl) rhex.L0.ok) trivial)) rhex.ok


def num8 (h : List Int) : Int := (h.take 8).foldl (fun n c => bitop .or .u64 (ishl .u64 n 8) (icv .u64 c)) 0
theorem fold_drop {α : Type} (f : α → Int → α) (l : List Int) (k : Nat) (h : k < l.length) (n : α) : (l.drop k).foldl f n = (l.drop (k + 1)).foldl f (f n l[k]) := by
  rw [List.drop_eq_getElem_cons h, List.foldl_cons]

/-! ### corsned/corsnedref04.Num -/
abbrev rnum.L0.D := (List Int) × Int × Int
def rnum.L0.st : rnum.L0.D → AS := fun (h_2, n, i) => ⟨[.undef, .rptr (.arr 32 (.int .u8)) h_2, .undef, .d (.int .u64) n, .d (.int .i64) i, .undef, .undef, .undef, .undef, .undef, .undef, .undef, .undef, .undef, .undef, .undef, .undef], [], (List.replicate 17 [])⟩
abbrev rnum.L0.Y0 := Int  -- n
abbrev rnum.L0.X0 := Int
def rnum.L0.ex0 : rnum.L0.X0 → Exit × AS := fun x => (.exit 0, ⟨[.undef, .undef, .undef, .d (.int .u64) x, .undef, .undef, .undef, .undef, .undef, .undef, .undef, .undef, .undef, .undef, .undef, .undef, .undef], [], (List.replicate 17 [])⟩)
abbrev rnum.L0.X := rnum.L0.X0
abbrev rnum.L0.Y := rnum.L0.Y0
def rnum.L0.out : rnum.L0.X → Out (Exit × AS) := fun x => .ok (rnum.L0.ex0 x)
def rnum.L0.add : rnum.L0.D → rnum.L0.Y → rnum.L0.X := fun (h_2, n, i) y => y
abbrev rnum.D := (List Int)
def rnum.st : rnum.D → List AVal × List Ent := fun h => ([.d (.arr 32 (.int .u8)) h], [])
abbrev rnum.Y := Int
abbrev rnum.X := Int
def rnum.out : rnum.X → GRes := fun x => ⟨.d (.int .u64) x, [], []⟩
def rnum.add : rnum.D → rnum.Y → rnum.X := fun h y => y


def rnum.L0.Pre : rnum.L0.D → Prop := fun (h, n, i) => h.length = 32 ∧ ∃ k : Nat, k ≤ 8 ∧ i = k
def rnum.L0.F : rnum.L0.D → rnum.L0.Y := fun (h, n, i) => ((h.take 8).drop i.toNat).foldl (fun n c => bitop .or .u64 (ishl .u64 n 8) (icv .u64 c)) n
def rnum.Pre : rnum.D → Prop := fun h => h.length = 32
def rnum.F : rnum.D → rnum.Y := num8

noncomputable def rnum.G : Gam := gnil
noncomputable def rnum.L0.E : LEntry := LEntry.of rnum.L0.st rnum.L0.Pre (fun d => rnum.L0.add d (rnum.L0.F d)) rnum.L0.out
noncomputable def rnum.L0.call : rnum.L0.D → Option rnum.L0.X := fun d => rnum.L0.E.run (rnum.L0.st d)
noncomputable def rnum.an : Ann := {
  objs := [],
  loops := fun r => bif Nat.beq r 3 then { keep := [1, 3, 4], sites := [], frz := [], data := [], owns := [] } else { keep := [], sites := [], frz := [], data := [], owns := [] },
  outs := fun r b => bif Nat.beq r 3 then (bif b then { keep := [2], sites := [], frz := [], data := [], owns := [] } else { keep := [3], sites := [], frz := [], data := [], owns := [] }) else { keep := [], sites := [], frz := [], data := [], owns := [] },
  sums := fun r => bif Nat.beq r 3 then some rnum.L0.E else none,
  owns := [],
  trim := [],
  res := [] }
theorem rnum.L0.inj : ∀ d d', rnum.L0.st d = rnum.L0.st d' → d = d' := fun (h_2, n, i) (h_2', n', i') hEq => by
  have e0 : h_2 = h_2' := rptr_inj (t := (.arr 32 (.int .u8))) (congrArg (fun s : AS => (s.slot 1)) hEq)
  have e1 : n = n' := d_inj (t := (.int .u64)) (congrArg (fun s : AS => (s.slot 3)) hEq)
  have e2 : i = i' := d_inj (t := (.int .i64)) (congrArg (fun s : AS => (s.slot 4)) hEq)
  rw [e0, e1, e2]
theorem rnum.L0.run {d : rnum.L0.D} (h : rnum.L0.Pre d) : rnum.L0.call d = some (rnum.L0.add d (rnum.L0.F d)) := LEntry.of_run rnum.L0.inj h
theorem rnum.L0.byRounds (μ : rnum.L0.D → Nat) (h : ∀ d, rnum.L0.Pre d → (∃ d', rnum.L0.Pre d' ∧ μ d' < μ d ∧ rnum.L0.add d' (rnum.L0.F d') = rnum.L0.add d (rnum.L0.F d) ∧ ∀ {R : Type} (kn : AS → Option R) (kx : Exit → AS → Option R), lround Try.prog rnum.G rnum.an 0 Try.f27 0 (rnum.L0.st d) kn kx = kn (rnum.L0.st d')) ∨ (∀ {R : Type} (kn : AS → Option R) (kx : Exit → AS → Option R), lround Try.prog rnum.G rnum.an 0 Try.f27 0 (rnum.L0.st d) kn kx = kx (rnum.L0.ex0 (rnum.L0.add d (rnum.L0.F d))).1 (rnum.L0.ex0 (rnum.L0.add d (rnum.L0.F d))).2)) : ∀ d, rnum.L0.Pre d → ∃ n, lrun Try.prog rnum.G rnum.an 0 Try.f27 0 n (rnum.L0.st d) (fun e s => some (e, s)) = (rnum.L0.out (rnum.L0.add d (rnum.L0.F d))).eval := lrun_one (F := fun d => rnum.L0.add d (rnum.L0.F d)) μ h
theorem rnum.L0.step {R : Type} (h_2 : (List Int)) (n : Int) (i : Int) (kn : AS → Option R) (kx : Exit → AS → Option R) : lround Try.prog rnum.G rnum.an 0 Try.f27 0 (rnum.L0.st (h_2, n, i)) kn kx =
  sel ((ilt i (8 : Int))) (
   sel (inb i (32 : Int)) (
   kn (rnum.L0.st (h_2, (bitop .or .u64 (ishl .u64 n (8 : Int)) (icv .u64 (nth (.int .u8) h_2 (Int.toNat i)))), (iadd .i64 i (1 : Int))))) none) (
   kx (rnum.L0.ex0 n).1 (rnum.L0.ex0 n).2) := by kernel_rfl
theorem rnum.eq {R : Type} (h : (List Int)) (k : GRes → Option R) : arun Try.prog rnum.G rnum.an 0 Try.f27 (rnum.st h).1 (rnum.st h).2 k =
  obind (rnum.L0.call (h, (0 : Int), (0 : Int))) fun x1 =>
  k (rnum.out x1) := by kernel_rfl


theorem rnum.L0.ok : ∀ d, rnum.L0.Pre d → ∃ n, lrun Try.prog rnum.G rnum.an 0 Try.f27 0 n (rnum.L0.st d) (fun e s => some (e, s)) = (rnum.L0.out (rnum.L0.add d (rnum.L0.F d))).eval := by
  refine rnum.L0.byRounds (fun (h, n, i) => 8 - i.toNat) ?_
  rintro ⟨h, n, i⟩ ⟨hl, k, hk, rfl⟩
  have hl : h.length = 32 := hl
  have h8 : (h.take 8).length = 8 := by rw [List.length_take]; omega
  by_cases hlt : k < 8
  · left
    have hn : nth (.int .u8) h k = (h.take 8)[k]'(by omega) := by rw [nth_lt (t := .int .u8) (by omega), List.getElem_take]
    refine ⟨(h, bitop .or .u64 (ishl .u64 n 8) (icv .u64 (nth (.int .u8) h k)), ((k + 1 : Nat) : Int)), ⟨hl, k + 1, by omega, rfl⟩, by simp only [Int.toNat_natCast]; omega, ?_, fun kn kx => ?_⟩
    · simp only [rnum.L0.add, rnum.L0.F, Int.toNat_natCast, hn]
      rw [fold_drop _ _ k (by omega)]
    · rw [rnum.L0.step]
      simp (disch := omega) only [↓N.lt, ↓N.le, ↓N.gt, ↓N.ge, ↓N.eq, ↓N.ne, ↓N.ib, ↓N.ic, ↓N.nn, ↓N.nz, ↓N.dc, ↓N.rm, ↓N.an, ↓N.or, ↓N.no, ↓if_pos, ↓if_neg, ↓sel_true, ↓sel_false, ↓obind_some, if_pos, if_neg, obind_some, N.aNN, N.aNL, N.aLN, N.sNN, N.sNL, N.sLN, N.mNN, N.mNL, N.mLN, N.qNN, N.qNL, N.rNN, N.rNL, N.cN, N.cL, N.tL, Int.toNat_natCast, if_true, if_false, and_self, true_and, and_true]
  · right
    obtain rfl : k = 8 := by omega
    intro R kn kx
    rw [rnum.L0.step]
    simp (disch := omega) only [↓N.lt, ↓N.le, ↓N.gt, ↓N.ge, ↓N.eq, ↓N.ne, ↓N.ib, ↓N.ic, ↓N.nn, ↓N.nz, ↓N.dc, ↓N.rm, ↓N.an, ↓N.or, ↓N.no, ↓if_pos, ↓if_neg, ↓sel_true, ↓sel_false, ↓obind_some, if_pos, if_neg, obind_some, N.aNN, N.aNL, N.aLN, N.sNN, N.sNL, N.sLN, N.mNN, N.mNL, N.mLN, N.qNN, N.qNL, N.rNN, N.rNL, N.cN, N.cL, N.tL, Int.toNat_natCast, if_true, if_false, and_self, true_and, and_true, rnum.L0.add, rnum.L0.F]
    rw [List.drop_of_length_le (by omega), List.foldl_nil]
theorem rnum.ok : ∀ d, rnum.Pre d → arun Try.prog rnum.G rnum.an 0 Try.f27 (rnum.st d).1 (rnum.st d).2 some = some (rnum.out (rnum.add d (rnum.F d))) := by
  intro h hl
  have p1 : rnum.L0.Pre (h, 0, 0) := ⟨hl, 0, by omega, rfl⟩
  rw [rnum.eq, rnum.L0.run p1]
  rfl

theorem rnum.inj : ∀ d d', rnum.st d = rnum.st d' → d = d' := fun h h' hEq => by
  have e0 : h = h' := d_inj (t := (.arr 32 (.int .u8))) (congrArg (fun s : List AVal × List Ent => (s.1.getD 0 .undef)) hEq)
  rw [e0]
noncomputable def rnum.E : Entry := Entry.of [some (.arr 32 (.int .u8))] rnum.st rnum.Pre (fun d => rnum.add d (rnum.F d)) rnum.out
noncomputable def rnum.call : rnum.D → Option rnum.X := fun d => rnum.E.run (rnum.st d).1 (rnum.st d).2
theorem rnum.run {d : rnum.D} (h : rnum.Pre d) : rnum.call d = some (rnum.add d (rnum.F d)) := Entry.of_run rnum.inj h
theorem rnum.does : Does Try.prog 27 rnum.E := Does.of (by kernel_rfl) (show Sound _ rnum.G from Sound.nil _) (by kernel_rfl) (by kernel_rfl) (by kernel_rfl) (LOk.fn 1 (by kernel_rfl) (And.intro (LDo.of (by kernel_rfl) rnum.L0.ok) trivial)) rnum.ok

/-! ### corsned/hash.Num -/
abbrev hnum.L0.D := Int × (List Int) × Int × Int
def hnum.L0.st : hnum.L0.D → AS := fun (n, t5, t6, t7) => ⟨[.undef, .undef, .d (.int .u64) n, .undef, .undef, .d (.slice (.int .u8)) t5, .d (.int .i64) t6, .d (.int .i64) t7, .undef, .undef, .undef, .undef, .undef, .undef, .undef, .undef, .undef, .undef], [], (List.replicate 18 [])⟩
abbrev hnum.L0.Y0 := Int  -- n
abbrev hnum.L0.X0 := Int
def hnum.L0.ex0 : hnum.L0.X0 → Exit × AS := fun x => (.exit 0, ⟨[.undef, .undef, .d (.int .u64) x, .undef, .undef, .undef, .undef, .undef, .undef, .undef, .undef, .undef, .undef, .undef, .undef, .undef, .undef, .undef], [], (List.replicate 18 [])⟩)
abbrev hnum.L0.X := hnum.L0.X0
abbrev hnum.L0.Y := hnum.L0.Y0
def hnum.L0.out : hnum.L0.X → Out (Exit × AS) := fun x => .ok (hnum.L0.ex0 x)
def hnum.L0.add : hnum.L0.D → hnum.L0.Y → hnum.L0.X := fun (n, t5, t6, t7) y => y
abbrev hnum.D := (List Int)
def hnum.st : hnum.D → List AVal × List Ent := fun h => ([.d (.arr 32 (.int .u8)) h], [])
abbrev hnum.Y := Int
abbrev hnum.X := Int
def hnum.out : hnum.X → GRes := fun x => ⟨.d (.int .u64) x, [], []⟩
def hnum.add : hnum.D → hnum.Y → hnum.X := fun h y => y


def hnum.L0.Pre : hnum.L0.D → Prop := fun (n, l, m, i) => l.length = 8 ∧ m = 8 ∧ ∃ k : Nat, k ≤ 8 ∧ i = k
def hnum.L0.F : hnum.L0.D → hnum.L0.Y := fun (n, l, m, i) => (l.drop i.toNat).foldl (fun n c => bitop .or .u64 (ishl .u64 n 8) (icv .u64 c)) n
def hnum.Pre : hnum.D → Prop := fun h => h.length = 32
def hnum.F : hnum.D → hnum.Y := num8

noncomputable def hnum.G : Gam := gnil
noncomputable def hnum.L0.E : LEntry := LEntry.of hnum.L0.st hnum.L0.Pre (fun d => hnum.L0.add d (hnum.L0.F d)) hnum.L0.out
noncomputable def hnum.L0.call : hnum.L0.D → Option hnum.L0.X := fun d => hnum.L0.E.run (hnum.L0.st d)
noncomputable def hnum.an : Ann := {
  objs := [],
  loops := fun r => bif Nat.beq r 2 then { keep := [2, 5, 6, 7], sites := [], frz := [], data := [], owns := [] } else { keep := [], sites := [], frz := [], data := [], owns := [] },
  outs := fun r b => bif Nat.beq r 2 then (bif b then { keep := [2], sites := [], frz := [], data := [], owns := [] } else { keep := [2], sites := [], frz := [], data := [], owns := [] }) else { keep := [], sites := [], frz := [], data := [], owns := [] },
  sums := fun r => bif Nat.beq r 2 then some hnum.L0.E else none,
  owns := [],
  trim := [],
  res := [] }
theorem hnum.L0.inj : ∀ d d', hnum.L0.st d = hnum.L0.st d' → d = d' := fun (n, t5, t6, t7) (n', t5', t6', t7') hEq => by
  have e0 : n = n' := d_inj (t := (.int .u64)) (congrArg (fun s : AS => (s.slot 2)) hEq)
  have e1 : t5 = t5' := d_inj (t := (.slice (.int .u8))) (congrArg (fun s : AS => (s.slot 5)) hEq)
  have e2 : t6 = t6' := d_inj (t := (.int .i64)) (congrArg (fun s : AS => (s.slot 6)) hEq)
  have e3 : t7 = t7' := d_inj (t := (.int .i64)) (congrArg (fun s : AS => (s.slot 7)) hEq)
  rw [e0, e1, e2, e3]
theorem hnum.L0.run {d : hnum.L0.D} (h : hnum.L0.Pre d) : hnum.L0.call d = some (hnum.L0.add d (hnum.L0.F d)) := LEntry.of_run hnum.L0.inj h
theorem hnum.L0.byRounds (μ : hnum.L0.D → Nat) (h : ∀ d, hnum.L0.Pre d → (∃ d', hnum.L0.Pre d' ∧ μ d' < μ d ∧ hnum.L0.add d' (hnum.L0.F d') = hnum.L0.add d (hnum.L0.F d) ∧ ∀ {R : Type} (kn : AS → Option R) (kx : Exit → AS → Option R), lround Try.prog hnum.G hnum.an 0 Try.f26 0 (hnum.L0.st d) kn kx = kn (hnum.L0.st d')) ∨ (∀ {R : Type} (kn : AS → Option R) (kx : Exit → AS → Option R), lround Try.prog hnum.G hnum.an 0 Try.f26 0 (hnum.L0.st d) kn kx = kx (hnum.L0.ex0 (hnum.L0.add d (hnum.L0.F d))).1 (hnum.L0.ex0 (hnum.L0.add d (hnum.L0.F d))).2)) : ∀ d, hnum.L0.Pre d → ∃ n, lrun Try.prog hnum.G hnum.an 0 Try.f26 0 n (hnum.L0.st d) (fun e s => some (e, s)) = (hnum.L0.out (hnum.L0.add d (hnum.L0.F d))).eval := lrun_one (F := fun d => hnum.L0.add d (hnum.L0.F d)) μ h
theorem hnum.L0.step {R : Type} (n : Int) (t5 : (List Int)) (t6 : Int) (t7 : Int) (kn : AS → Option R) (kx : Exit → AS → Option R) : lround Try.prog hnum.G hnum.an 0 Try.f26 0 (hnum.L0.st (n, t5, t6, t7)) kn kx =
  sel ((ilt t7 t6)) (
   sel (inb t7 (((List.length t5) : Nat) : Int)) (
   kn (hnum.L0.st ((bitop .or .u64 (ishl .u64 n (8 : Int)) (icv .u64 (nth (.int .u8) t5 (Int.toNat t7)))), t5, t6, (iadd .i64 t7 (1 : Int))))) none) (
   kx (hnum.L0.ex0 n).1 (hnum.L0.ex0 n).2) := by kernel_rfl
theorem hnum.eq {R : Type} (h : (List Int)) (k : GRes → Option R) : arun Try.prog hnum.G hnum.an 0 Try.f26 (hnum.st h).1 (hnum.st h).2 k =
  obind (hnum.L0.call ((0 : Int), (cut h 0 8), (((List.length (cut h 0 8)) : Nat) : Int), (0 : Int))) fun x1 =>
  k (hnum.out x1) := by kernel_rfl


theorem hnum.L0.ok : ∀ d, hnum.L0.Pre d → ∃ n, lrun Try.prog hnum.G hnum.an 0 Try.f26 0 n (hnum.L0.st d) (fun e s => some (e, s)) = (hnum.L0.out (hnum.L0.add d (hnum.L0.F d))).eval := by
  refine hnum.L0.byRounds (fun (n, l, m, i) => 8 - i.toNat) ?_
  rintro ⟨n, l, m, i⟩ ⟨hl, rfl, k, hk, rfl⟩
  have hl : l.length = 8 := hl
  by_cases hlt : k < 8
  · left
    have hn : nth (.int .u8) l k = l[k]'(by omega) := nth_lt (t := .int .u8) (by omega)
    refine ⟨(bitop .or .u64 (ishl .u64 n 8) (icv .u64 (nth (.int .u8) l k)), l, 8, ((k + 1 : Nat) : Int)), ⟨hl, rfl, k + 1, by omega, rfl⟩, by simp only [Int.toNat_natCast]; omega, ?_, fun kn kx => ?_⟩
    · simp only [hnum.L0.add, hnum.L0.F, Int.toNat_natCast, hn]
      rw [fold_drop _ _ k (by omega)]
    · rw [hnum.L0.step]
      simp (disch := omega) only [↓N.lt, ↓N.le, ↓N.gt, ↓N.ge, ↓N.eq, ↓N.ne, ↓N.ib, ↓N.ic, ↓N.nn, ↓N.nz, ↓N.dc, ↓N.rm, ↓N.an, ↓N.or, ↓N.no, ↓if_pos, ↓if_neg, ↓sel_true, ↓sel_false, ↓obind_some, if_pos, if_neg, obind_some, N.aNN, N.aNL, N.aLN, N.sNN, N.sNL, N.sLN, N.mNN, N.mNL, N.mLN, N.qNN, N.qNL, N.rNN, N.rNL, N.cN, N.cL, N.tL, Int.toNat_natCast, if_true, if_false, and_self, true_and, and_true, hl]
  · right
    obtain rfl : k = 8 := by omega
    intro R kn kx
    rw [hnum.L0.step]
    simp (disch := omega) only [↓N.lt, ↓N.le, ↓N.gt, ↓N.ge, ↓N.eq, ↓N.ne, ↓N.ib, ↓N.ic, ↓N.nn, ↓N.nz, ↓N.dc, ↓N.rm, ↓N.an, ↓N.or, ↓N.no, ↓if_pos, ↓if_neg, ↓sel_true, ↓sel_false, ↓obind_some, if_pos, if_neg, obind_some, N.aNN, N.aNL, N.aLN, N.sNN, N.sNL, N.sLN, N.mNN, N.mNL, N.mLN, N.qNN, N.qNL, N.rNN, N.rNL, N.cN, N.cL, N.tL, Int.toNat_natCast, if_true, if_false, and_self, true_and, and_true, hnum.L0.add, hnum.L0.F]
    rw [List.drop_of_length_le (by omega), List.foldl_nil]
theorem hnum.ok : ∀ d, hnum.Pre d → arun Try.prog hnum.G hnum.an 0 Try.f26 (hnum.st d).1 (hnum.st d).2 some = some (hnum.out (hnum.add d (hnum.F d))) := by
  intro h hl
  have hl : h.length = 32 := hl
  have e1 : (cut h 0 8).length = 8 := by unfold cut; rw [List.drop_zero, List.length_take]; omega
  have p1 : hnum.L0.Pre (0, cut h 0 8, 8, 0) := ⟨e1, rfl, 0, by omega, rfl⟩
  rw [hnum.eq, e1]
  show obind (hnum.L0.call (0, cut h 0 8, 8, 0)) _ = _
  rw [hnum.L0.run p1]
  rfl

theorem hnum.inj : ∀ d d', hnum.st d = hnum.st d' → d = d' := fun h h' hEq => by
  have e0 : h = h' := d_inj (t := (.arr 32 (.int .u8))) (congrArg (fun s : List AVal × List Ent => (s.1.getD 0 .undef)) hEq)
  rw [e0]
noncomputable def hnum.E : Entry := Entry.of [some (.arr 32 (.int .u8))] hnum.st hnum.Pre (fun d => hnum.add d (hnum.F d)) hnum.out
noncomputable def hnum.call : hnum.D → Option hnum.X := fun d => hnum.E.run (hnum.st d).1 (hnum.st d).2
theorem hnum.run {d : hnum.D} (h : hnum.Pre d) : hnum.call d = some (hnum.add d (hnum.F d)) := Entry.of_run hnum.inj h
theorem hnum.does : Does Try.prog 26 hnum.E := Does.of (by kernel_rfl) (show Sound _ hnum.G from Sound.nil _) (by kernel_rfl) (by kernel_rfl) (by kernel_rfl) (LOk.fn 1 (by kernel_rfl) (And.intro (LDo.of (by kernel_rfl) hnum.L0.ok) trivial)) hnum.ok

end Go.Ab
