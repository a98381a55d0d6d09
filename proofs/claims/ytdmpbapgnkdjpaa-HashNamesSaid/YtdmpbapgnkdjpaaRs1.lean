/-
  Made by a program of mine (wip/gen), and by hand.
-/
import Derived.Test.YtdmpbapgnkdjpaaRa4
import Derived.Test.YtdmpbapgnkdjpaaSl3
namespace Go.Ab
open Go.Proofs
set_option maxRecDepth 100000
set_option linter.unusedVariables false
set_option linter.unusedSimpArgs false

/-! ### corsned/corsnedref09.Eight -/
abbrev r9eight.D := Int
def r9eight.st : r9eight.D → List AVal × List Ent := fun n => ([.d (.int .u64) n], [])
abbrev r9eight.Y := (List Int)
abbrev r9eight.X := (List Int)
def r9eight.out : r9eight.X → GRes := fun x => ⟨.d (.slice (.int .u8)) x, [], []⟩
def r9eight.add : r9eight.D → r9eight.Y → r9eight.X := fun n y => y


def r9eight.Pre : r9eight.D → Prop := fun n => True
def r9eight.F : r9eight.D → r9eight.Y := fun n => be8 n

noncomputable def r9eight.G : Gam := gnil
noncomputable def r9eight.an : Ann := {
  objs := [],
  loops := fun r => bif Nat.beq r 3 then { keep := [0, 3, 4], sites := [18], frz := [], data := [], owns := [] } else { keep := [], sites := [], frz := [], data := [], owns := [] },
  outs := fun r b => bif Nat.beq r 3 then (bif b then { keep := [2], sites := [18], frz := [], data := [], owns := [] } else { keep := [3], sites := [18], frz := [], data := [], owns := [] }) else { keep := [], sites := [], frz := [], data := [], owns := [] },
  sums := fun r => none,
  owns := [],
  trim := [],
  res := [some (.slice (.int .u8))] }
theorem r9eight.eq {R : Type} (n : Int) (k : GRes → Option R) : arun Try.prog r9eight.G r9eight.an 10 Try.f35 (r9eight.st n).1 (r9eight.st n).2 k =
  k (r9eight.out [(icv .u8 (ishr .u64 n (56 : Int))), (icv .u8 (ishr .u64 n (48 : Int))), (icv .u8 (ishr .u64 n (40 : Int))), (icv .u8 (ishr .u64 n (32 : Int))), (icv .u8 (ishr .u64 n (24 : Int))), (icv .u8 (ishr .u64 n (16 : Int))), (icv .u8 (ishr .u64 n (8 : Int))), (icv .u8 (ishr .u64 n (0 : Int)))]) := by kernel_rfl


theorem r9eight.ok : ∀ d, r9eight.Pre d → arun Try.prog r9eight.G r9eight.an 10 Try.f35 (r9eight.st d).1 (r9eight.st d).2 some = some (r9eight.out (r9eight.add d (r9eight.F d))) := by
  intro n _
  rw [r9eight.eq, be8_equ]
  rfl

theorem r9eight.inj : ∀ d d', r9eight.st d = r9eight.st d' → d = d' := fun n n' hEq => by
  have e0 : n = n' := d_inj (t := (.int .u64)) (congrArg (fun s : List AVal × List Ent => (s.1.getD 0 .undef)) hEq)
  rw [e0]
noncomputable def r9eight.E : Entry := Entry.of [some (.int .u64)] r9eight.st r9eight.Pre (fun d => r9eight.add d (r9eight.F d)) r9eight.out
noncomputable def r9eight.call : r9eight.D → Option r9eight.X := fun d => r9eight.E.run (r9eight.st d).1 (r9eight.st d).2
theorem r9eight.run {d : r9eight.D} (h : r9eight.Pre d) : r9eight.call d = some (r9eight.add d (r9eight.F d)) := Entry.of_run r9eight.inj h
theorem r9eight.does : Does Try.prog 35 r9eight.E := Does.of (by kernel_rfl) (show Sound _ r9eight.G from Sound.nil _) (by kernel_rfl) (by kernel_rfl) (by kernel_rfl) (LOk.fn 1 (by kernel_rfl) (And.intro (LDo.none (by kernel_rfl)) trivial)) r9eight.ok

/-! ### corsned/corsnedref09.over -/
abbrev r9over.L0.D := (List Int) × (List Int) × Nat × Int × (List Int)
def r9over.L0.st : r9over.L0.D → AS := fun (a_2, b_2, outL, i, n24) => ⟨[.d (.slice (.int .u8)) a_2, .d (.slice (.int .u8)) b_2, .undef, .undef, .undef, .sref (.new 24 0) 0 [] 0 0 outL, .d (.int .i64) i, .undef, .undef, .undef, .undef, .undef, .undef, .undef, .undef, .undef, .undef, .undef, .undef, .undef, .undef, .undef, .undef, .undef, .undef, .undef], [], [[], [], [], [], [], [], [], [], [], [], [], [], [], [], [], [], [], [], [], [], [], [], [], [], [.obj 0 false (.vec 5 (.int .u8) n24)], []]⟩
abbrev r9over.L0.Y0 := Nat × (List Int)  -- outL, n24
abbrev r9over.L0.X0 := Nat × (List Int)
def r9over.L0.ex0 : r9over.L0.X0 → Exit × AS := fun x => (.exit 0, ⟨[.undef, .undef, .undef, .undef, .undef, .sref (.new 24 0) 0 [] 0 0 x.1, .undef, .undef, .undef, .undef, .undef, .undef, .undef, .undef, .undef, .undef, .undef, .undef, .undef, .undef, .undef, .undef, .undef, .undef, .undef, .undef], [], [[], [], [], [], [], [], [], [], [], [], [], [], [], [], [], [], [], [], [], [], [], [], [], [], [.obj 0 false (.vec 5 (.int .u8) x.2)], []]⟩)
abbrev r9over.L0.X := r9over.L0.X0
abbrev r9over.L0.Y := r9over.L0.Y0
def r9over.L0.out : r9over.L0.X → Out (Exit × AS) := fun x => .ok (r9over.L0.ex0 x)
def r9over.L0.add : r9over.L0.D → r9over.L0.Y → r9over.L0.X := fun (a_2, b_2, outL, i, n24) y => y
abbrev r9over.D := (List Int) × (List Int)
def r9over.st : r9over.D → List AVal × List Ent := fun (a, b) => ([.d (.slice (.int .u8)) a, .d (.slice (.int .u8)) b], [])
abbrev r9over.Y := Nat × (List Int)
abbrev r9over.X := Nat × (List Int)
def r9over.out : r9over.X → GRes := fun x => ⟨.sref (.new 0 0) 0 [] 0 0 x.1, [], [.obj 0 false (.vec 5 (.int .u8) x.2)]⟩
def r9over.add : r9over.D → r9over.Y → r9over.X := fun (a, b) y => y


def ovr (a b : List Int) : List Int := List.zipWith (fun x y => bitop .xor .u8 x y) a b
def r9over.L0.Pre : r9over.L0.D → Prop := fun (a, b, m, i, l) => a.length ≤ b.length ∧ a.length ≤ 140737488350000 ∧ ∃ k : Nat, k ≤ a.length ∧ i = k ∧ k = m ∧ l = (ovr a b).take k
def r9over.L0.F : r9over.L0.D → r9over.L0.Y := fun (a, b, m, i, l) => (a.length, ovr a b)
def r9over.Pre : r9over.D → Prop := fun (a, b) => a.length ≤ b.length ∧ a.length ≤ 140737488350000
def r9over.F : r9over.D → r9over.Y := fun (a, b) => (a.length, ovr a b)

noncomputable def r9over.G : Gam := gnil
noncomputable def r9over.L0.E : LEntry := LEntry.of r9over.L0.st r9over.L0.Pre (fun d => r9over.L0.add d (r9over.L0.F d)) r9over.L0.out
noncomputable def r9over.L0.call : r9over.L0.D → Option r9over.L0.X := fun d => r9over.L0.E.run (r9over.L0.st d)
noncomputable def r9over.an : Ann := {
  objs := [],
  loops := fun r => bif Nat.beq r 3 then { keep := [0, 1, 5, 6], sites := [24], frz := [], data := [], owns := [⟨5, [], 24, 24⟩] } else { keep := [], sites := [], frz := [], data := [], owns := [] },
  outs := fun r b => bif Nat.beq r 3 then (bif b then { keep := [4], sites := [], frz := [], data := [], owns := [] } else { keep := [5], sites := [24], frz := [], data := [], owns := [] }) else { keep := [], sites := [], frz := [], data := [], owns := [] },
  sums := fun r => bif Nat.beq r 3 then some r9over.L0.E else none,
  owns := [],
  trim := [],
  res := [] }
theorem r9over.L0.inj : ∀ d d', r9over.L0.st d = r9over.L0.st d' → d = d' := fun (a_2, b_2, outL, i, n24) (a_2', b_2', outL', i', n24') hEq => by
  have e0 : a_2 = a_2' := d_inj (t := (.slice (.int .u8))) (congrArg (fun s : AS => (s.slot 0)) hEq)
  have e1 : b_2 = b_2' := d_inj (t := (.slice (.int .u8))) (congrArg (fun s : AS => (s.slot 1)) hEq)
  have e2 : outL = outL' := congrArg (fun s : AS => srefLen (s.slot 5)) hEq
  have e3 : i = i' := d_inj (t := (.int .i64)) (congrArg (fun s : AS => (s.slot 6)) hEq)
  have e4 : n24 = n24' := vec_inj (e := 5) (t := (.int .u8)) (congrArg (fun s : AS => (entC (s.ent (.new 24 0)))) hEq)
  rw [e0, e1, e2, e3, e4]
theorem r9over.L0.run {d : r9over.L0.D} (h : r9over.L0.Pre d) : r9over.L0.call d = some (r9over.L0.add d (r9over.L0.F d)) := LEntry.of_run r9over.L0.inj h
theorem r9over.L0.byRounds (μ : r9over.L0.D → Nat) (h : ∀ d, r9over.L0.Pre d → (∃ d', r9over.L0.Pre d' ∧ μ d' < μ d ∧ r9over.L0.add d' (r9over.L0.F d') = r9over.L0.add d (r9over.L0.F d) ∧ ∀ {R : Type} (kn : AS → Option R) (kx : Exit → AS → Option R), lround Try.prog r9over.G r9over.an 0 Try.f33 0 (r9over.L0.st d) kn kx = kn (r9over.L0.st d')) ∨ (∀ {R : Type} (kn : AS → Option R) (kx : Exit → AS → Option R), lround Try.prog r9over.G r9over.an 0 Try.f33 0 (r9over.L0.st d) kn kx = kx (r9over.L0.ex0 (r9over.L0.add d (r9over.L0.F d))).1 (r9over.L0.ex0 (r9over.L0.add d (r9over.L0.F d))).2)) : ∀ d, r9over.L0.Pre d → ∃ n, lrun Try.prog r9over.G r9over.an 0 Try.f33 0 n (r9over.L0.st d) (fun e s => some (e, s)) = (r9over.L0.out (r9over.L0.add d (r9over.L0.F d))).eval := lrun_one (F := fun d => r9over.L0.add d (r9over.L0.F d)) μ h
theorem r9over.L0.step {R : Type} (a_2 : (List Int)) (b_2 : (List Int)) (outL : Nat) (i : Int) (n24 : (List Int)) (kn : AS → Option R) (kx : Exit → AS → Option R) : lround Try.prog r9over.G r9over.an 0 Try.f33 0 (r9over.L0.st (a_2, b_2, outL, i, n24)) kn kx =
  sel ((ilt i (((List.length a_2) : Nat) : Int))) (
   sel (inb i (((List.length a_2) : Nat) : Int)) (
   sel (inb i (((List.length b_2) : Nat) : Int)) (
   sel (decide (outL ≤ (List.length n24))) (
   sel (roomA (outL + 1) 1) (
   kn (r9over.L0.st (a_2, b_2, (outL + 1), (iadd .i64 i (1 : Int)), ((List.take outL n24) ++ [(bitop .xor .u8 (nth (.int .u8) a_2 (Int.toNat i)) (nth (.int .u8) b_2 (Int.toNat i)))])))) none) none) none) none) (
   kx (r9over.L0.ex0 (outL, n24)).1 (r9over.L0.ex0 (outL, n24)).2) := by kernel_rfl
theorem r9over.eq {R : Type} (a : (List Int)) (b : (List Int)) (k : GRes → Option R) : arun Try.prog r9over.G r9over.an 0 Try.f33 (r9over.st (a, b)).1 (r9over.st (a, b)).2 k =
  obind (r9over.L0.call (a, b, 0, (0 : Int), ([] : List Int))) fun x1 =>
  k (r9over.out (x1.1, x1.2)) := by kernel_rfl


theorem ovr_length {a b : List Int} (h : a.length ≤ b.length) : (ovr a b).length = a.length := by
  unfold ovr
  rw [List.length_zipWith]
  omega
theorem r9over.L0.ok : ∀ d, r9over.L0.Pre d → ∃ n, lrun Try.prog r9over.G r9over.an 0 Try.f33 0 n (r9over.L0.st d) (fun e s => some (e, s)) = (r9over.L0.out (r9over.L0.add d (r9over.L0.F d))).eval := by
  refine r9over.L0.byRounds (fun (a, b, m, i, l) => a.length - m) ?_
  rintro ⟨a, b, m, i, l⟩ ⟨hab, hb, k, hk, rfl, rfl, rfl⟩
  have hab : a.length ≤ b.length := hab
  have hb : a.length ≤ 140737488350000 := hb
  have hk : k ≤ a.length := hk
  have hl := ovr_length hab
  have hlk : ((ovr a b).take k).length = k := by rw [List.length_take]; omega
  by_cases h : k < a.length
  · left
    have na : nth (.int .u8) a k = a[k] := nth_lt (t := .int .u8) h
    have nb : nth (.int .u8) b k = b[k] := nth_lt (t := .int .u8) (by omega)
    have no : (ovr a b)[k]'(by omega) = bitop .xor .u8 a[k] b[k] := by unfold ovr; rw [List.getElem_zipWith]
    refine ⟨(a, b, k + 1, ((k + 1 : Nat) : Int), (ovr a b).take (k + 1)), ⟨hab, hb, k + 1, by omega, rfl, rfl, rfl⟩, by simp only; omega, rfl, fun kn kx => ?_⟩
    rw [r9over.L0.step, List.take_succ_eq_append_getElem (by omega : k < (ovr a b).length), no]
    simp (disch := omega) only [↓N.lt, ↓N.le, ↓N.gt, ↓N.ge, ↓N.eq, ↓N.ne, ↓N.ib, ↓N.ic, ↓N.nn, ↓N.nz, ↓N.dc, ↓N.rm, ↓N.an, ↓N.or, ↓N.no, ↓if_pos, ↓if_neg, ↓sel_true, ↓sel_false, ↓obind_some, if_pos, if_neg, obind_some, N.aNN, N.aNL, N.aLN, N.sNN, N.sNL, N.sLN, N.mNN, N.mNL, N.mLN, N.qNN, N.qNL, N.rNN, N.rNL, N.cN, N.cL, N.tL, Int.toNat_natCast, if_true, if_false, and_self, true_and, and_true, hlk, na, nb, List.take_of_length_le (Nat.le_of_eq hlk)]
  · right
    obtain rfl : k = a.length := by omega
    intro R kn kx
    rw [r9over.L0.step]
    simp (disch := omega) only [↓N.lt, ↓N.le, ↓N.gt, ↓N.ge, ↓N.eq, ↓N.ne, ↓N.ib, ↓N.ic, ↓N.nn, ↓N.nz, ↓N.dc, ↓N.rm, ↓N.an, ↓N.or, ↓N.no, ↓if_pos, ↓if_neg, ↓sel_true, ↓sel_false, ↓obind_some, if_pos, if_neg, obind_some, N.aNN, N.aNL, N.aLN, N.sNN, N.sNL, N.sLN, N.mNN, N.mNL, N.mLN, N.qNN, N.qNL, N.rNN, N.rNL, N.cN, N.cL, N.tL, Int.toNat_natCast, if_true, if_false, and_self, true_and, and_true, r9over.L0.add, r9over.L0.F]
    rw [List.take_of_length_le (by omega)]
theorem r9over.ok : ∀ d, r9over.Pre d → arun Try.prog r9over.G r9over.an 0 Try.f33 (r9over.st d).1 (r9over.st d).2 some = some (r9over.out (r9over.add d (r9over.F d))) := by
  rintro ⟨a, b⟩ ⟨h1, h2⟩
  have p1 : r9over.L0.Pre (a, b, 0, 0, []) := ⟨h1, h2, 0, Nat.zero_le _, rfl, rfl, rfl⟩
  rw [r9over.eq, r9over.L0.run p1]
  rfl

theorem r9over.inj : ∀ d d', r9over.st d = r9over.st d' → d = d' := fun (a, b) (a', b') hEq => by
  have e0 : a = a' := d_inj (t := (.slice (.int .u8))) (congrArg (fun s : List AVal × List Ent => (s.1.getD 0 .undef)) hEq)
  have e1 : b = b' := d_inj (t := (.slice (.int .u8))) (congrArg (fun s : List AVal × List Ent => (s.1.getD 1 .undef)) hEq)
  rw [e0, e1]
noncomputable def r9over.E : Entry := Entry.of [some (.slice (.int .u8)), some (.slice (.int .u8))] r9over.st r9over.Pre (fun d => r9over.add d (r9over.F d)) r9over.out
noncomputable def r9over.call : r9over.D → Option r9over.X := fun d => r9over.E.run (r9over.st d).1 (r9over.st d).2
theorem r9over.run {d : r9over.D} (h : r9over.Pre d) : r9over.call d = some (r9over.add d (r9over.F d)) := Entry.of_run r9over.inj h
theorem r9over.does : Does Try.prog 33 r9over.E := Does.of (by kernel_rfl) (show Sound _ r9over.G from Sound.nil _) (by kernel_rfl) (by kernel_rfl) (by kernel_rfl) (LOk.fn 1 (by kernel_rfl) (And.intro (LDo.of (by kernel_rfl) r9over.L0.ok) trivial)) r9over.ok

/-! ### corsned/corsnedref09.Stream -/
abbrev r9stream.L0.D := Int × (List Int) × Nat × Int × (List Int)
def r9stream.L0.st : r9stream.L0.D → AS := fun (n_2, key_2, outL, i, n41) => ⟨[.undef, .d (.int .i64) n_2, .rptr (.arr 32 (.int .u8)) key_2, .undef, .undef, .sref (.new 41 0) 0 [] 0 0 outL, .d (.int .u64) i, .undef, .undef, .undef, .undef, .undef, .undef, .undef, .undef, .undef, .undef, .undef, .undef, .undef, .undef, .undef, .undef, .undef, .undef, .undef, .undef, .undef, .undef, .undef, .undef, .undef, .undef, .undef, .undef, .undef, .undef, .undef, .undef, .undef, .undef, .undef, .undef], [], [[], [], [], [], [], [], [], [], [], [], [], [], [], [], [], [], [], [], [], [], [], [], [], [], [], [], [], [], [], [], [], [], [], [], [], [], [], [], [], [], [], [.obj 0 false (.vec 5 (.int .u8) n41)], []]⟩
abbrev r9stream.L0.Y0 := Nat × (List Int)  -- outL, n41
abbrev r9stream.L0.X0 := Nat × (List Int)
def r9stream.L0.ex0 : r9stream.L0.X0 → Exit × AS := fun x => (.exit 0, ⟨[.undef, .undef, .undef, .undef, .undef, .sref (.new 41 0) 0 [] 0 0 x.1, .undef, .undef, .undef, .undef, .undef, .undef, .undef, .undef, .undef, .undef, .undef, .undef, .undef, .undef, .undef, .undef, .undef, .undef, .undef, .undef, .undef, .undef, .undef, .undef, .undef, .undef, .undef, .undef, .undef, .undef, .undef, .undef, .undef, .undef, .undef, .undef, .undef], [], [[], [], [], [], [], [], [], [], [], [], [], [], [], [], [], [], [], [], [], [], [], [], [], [], [], [], [], [], [], [], [], [], [], [], [], [], [], [], [], [], [], [.obj 0 false (.vec 5 (.int .u8) x.2)], []]⟩)
abbrev r9stream.L0.X := r9stream.L0.X0
abbrev r9stream.L0.Y := r9stream.L0.Y0
def r9stream.L0.out : r9stream.L0.X → Out (Exit × AS) := fun x => .ok (r9stream.L0.ex0 x)
def r9stream.L0.add : r9stream.L0.D → r9stream.L0.Y → r9stream.L0.X := fun (n_2, key_2, outL, i, n41) y => y
abbrev r9stream.L1.D := Int × (List Int) × Nat × Int × Int × (List Int) × (List Int)
def r9stream.L1.st : r9stream.L1.D → AS := fun (n_3, key_3, outL_2, i_2, kv, n7, n41_2) => ⟨[.undef, .d (.int .i64) n_3, .rptr (.arr 32 (.int .u8)) key_3, .undef, .undef, .sref (.new 41 0) 0 [] 0 0 outL_2, .d (.int .u64) i_2, .ptr (.new 7 0) 0 [] 0, .d (.int .i64) kv, .undef, .undef, .undef, .undef, .undef, .undef, .undef, .undef, .undef, .undef, .undef, .undef, .undef, .undef, .undef, .undef, .undef, .undef, .undef, .undef, .undef, .undef, .undef, .undef, .undef, .undef, .undef, .undef, .undef, .undef, .undef, .undef, .undef, .undef], [], [[], [], [], [], [], [], [], [.obj 0 false (.d (.arr 32 (.int .u8)) n7)], [], [], [], [], [], [], [], [], [], [], [], [], [], [], [], [], [], [], [], [], [], [], [], [], [], [], [], [], [], [], [], [], [], [.obj 0 false (.vec 5 (.int .u8) n41_2)], []]⟩
abbrev r9stream.L1.Y0 := Nat × (List Int)  -- outL, n41
abbrev r9stream.L1.X0 := (Int × (List Int) × Int) × (Nat × (List Int))
def r9stream.L1.ex0 : r9stream.L1.X0 → Exit × AS := fun x => (.exit 2, ⟨[.undef, .d (.int .i64) x.1.1, .rptr (.arr 32 (.int .u8)) x.1.2.1, .undef, .undef, .sref (.new 41 0) 0 [] 0 0 x.2.1, .d (.int .u64) x.1.2.2, .undef, .undef, .undef, .undef, .undef, .undef, .undef, .undef, .undef, .undef, .undef, .undef, .undef, .undef, .undef, .undef, .undef, .undef, .undef, .undef, .undef, .undef, .undef, .undef, .undef, .undef, .undef, .undef, .undef, .undef, .undef, .undef, .undef, .undef, .undef, .undef], [], [[], [], [], [], [], [], [], [], [], [], [], [], [], [], [], [], [], [], [], [], [], [], [], [], [], [], [], [], [], [], [], [], [], [], [], [], [], [], [], [], [], [.obj 0 false (.vec 5 (.int .u8) x.2.2)], []]⟩)
abbrev r9stream.L1.X := r9stream.L1.X0
abbrev r9stream.L1.Y := r9stream.L1.Y0
def r9stream.L1.out : r9stream.L1.X → Out (Exit × AS) := fun x => .ok (r9stream.L1.ex0 x)
def r9stream.L1.add : r9stream.L1.D → r9stream.L1.Y → r9stream.L1.X := fun (n_3, key_3, outL_2, i_2, kv, n7, n41_2) y => ((n_3, key_3, i_2), y)
abbrev r9stream.D := (List Int) × Int
def r9stream.st : r9stream.D → List AVal × List Ent := fun (key, n) => ([.d (.arr 32 (.int .u8)) key, .d (.int .i64) n], [])
abbrev r9stream.Y := (List Int)
abbrev r9stream.X := (List Int)
def r9stream.out : r9stream.X → GRes := fun x => ⟨.d (.slice (.int .u8)) x, [], []⟩
def r9stream.add : r9stream.D → r9stream.Y → r9stream.X := fun (key, n) y => y


def r9stream.L1.Pre : r9stream.L1.D → Prop := fun (n, key, m, i, kv, x, l) => x.length = 32 ∧ 0 ≤ n ∧ n ≤ 65536 ∧ l.length ≤ n ∧ m = l.length ∧ ∃ k : Nat, k ≤ 32 ∧ kv = k
def r9stream.L1.F : r9stream.L1.D → r9stream.L1.Y := fun (n, key, m, i, kv, x, l) => ((l ++ (x.drop kv.toNat).take (n.toNat - l.length)).length, l ++ (x.drop kv.toNat).take (n.toNat - l.length))
def r9stream.L0.Pre : r9stream.L0.D → Prop := fun (n, key, m, i, l) => key.length = 32 ∧ 0 ≤ n ∧ n ≤ 65536 ∧ m = l.length ∧ ∃ k : Nat, k ≤ 4000 ∧ i = k ∧ l = (strmN key k).take n.toNat
def r9stream.L0.F : r9stream.L0.D → r9stream.L0.Y := fun (n, key, m, i, l) => (n.toNat, strmT key n.toNat)
def r9stream.Pre : r9stream.D → Prop := fun (key, n) => key.length = 32
def r9stream.F : r9stream.D → r9stream.Y := fun (key, n) => if n < 0 ∨ 65536 < n then [] else strmT key n.toNat

noncomputable def r9stream.G : Gam := gcons 35 anyArgs r9eight.E (gcons 30 anyArgs rtag.E (gnil))
noncomputable def r9stream.L0.E : LEntry := LEntry.of r9stream.L0.st r9stream.L0.Pre (fun d => r9stream.L0.add d (r9stream.L0.F d)) r9stream.L0.out
noncomputable def r9stream.L0.call : r9stream.L0.D → Option r9stream.L0.X := fun d => r9stream.L0.E.run (r9stream.L0.st d)
noncomputable def r9stream.L1.E : LEntry := LEntry.of r9stream.L1.st r9stream.L1.Pre (fun d => r9stream.L1.add d (r9stream.L1.F d)) r9stream.L1.out
noncomputable def r9stream.L1.call : r9stream.L1.D → Option r9stream.L1.X := fun d => r9stream.L1.E.run (r9stream.L1.st d)
noncomputable def r9stream.an : Ann := {
  objs := [],
  loops := fun r => bif Nat.beq r 5 then { keep := [1, 2, 5, 6], sites := [41], frz := [], data := [], owns := [⟨5, [], 41, 24⟩] } else bif Nat.beq r 9 then { keep := [1, 2, 5, 6, 7, 8], sites := [7, 41], frz := [], data := [], owns := [⟨5, [], 41, 24⟩] } else { keep := [], sites := [], frz := [], data := [], owns := [] },
  outs := fun r b => bif Nat.beq r 5 then (bif b then { keep := [4], sites := [], frz := [], data := [], owns := [] } else { keep := [5], sites := [41], frz := [], data := [], owns := [] }) else bif Nat.beq r 9 then (bif b then { keep := [4], sites := [], frz := [], data := [], owns := [] } else { keep := [1, 2, 5, 6], sites := [41], frz := [], data := [], owns := [] }) else { keep := [], sites := [], frz := [], data := [], owns := [] },
  sums := fun r => bif Nat.beq r 5 then some r9stream.L0.E else bif Nat.beq r 9 then some r9stream.L1.E else none,
  owns := [],
  trim := [],
  res := [some (.slice (.int .u8))] }
theorem r9stream.L0.inj : ∀ d d', r9stream.L0.st d = r9stream.L0.st d' → d = d' := fun (n_2, key_2, outL, i, n41) (n_2', key_2', outL', i', n41') hEq => by
  have e0 : n_2 = n_2' := d_inj (t := (.int .i64)) (congrArg (fun s : AS => (s.slot 1)) hEq)
  have e1 : key_2 = key_2' := rptr_inj (t := (.arr 32 (.int .u8))) (congrArg (fun s : AS => (s.slot 2)) hEq)
  have e2 : outL = outL' := congrArg (fun s : AS => srefLen (s.slot 5)) hEq
  have e3 : i = i' := d_inj (t := (.int .u64)) (congrArg (fun s : AS => (s.slot 6)) hEq)
  have e4 : n41 = n41' := vec_inj (e := 5) (t := (.int .u8)) (congrArg (fun s : AS => (entC (s.ent (.new 41 0)))) hEq)
  rw [e0, e1, e2, e3, e4]
theorem r9stream.L0.run {d : r9stream.L0.D} (h : r9stream.L0.Pre d) : r9stream.L0.call d = some (r9stream.L0.add d (r9stream.L0.F d)) := LEntry.of_run r9stream.L0.inj h
theorem r9stream.L0.byRounds (μ : r9stream.L0.D → Nat) (h : ∀ d, r9stream.L0.Pre d → (∃ d', r9stream.L0.Pre d' ∧ μ d' < μ d ∧ r9stream.L0.add d' (r9stream.L0.F d') = r9stream.L0.add d (r9stream.L0.F d) ∧ ∀ {R : Type} (kn : AS → Option R) (kx : Exit → AS → Option R), lround Try.prog r9stream.G r9stream.an 0 Try.f17 0 (r9stream.L0.st d) kn kx = kn (r9stream.L0.st d')) ∨ (∀ {R : Type} (kn : AS → Option R) (kx : Exit → AS → Option R), lround Try.prog r9stream.G r9stream.an 0 Try.f17 0 (r9stream.L0.st d) kn kx = kx (r9stream.L0.ex0 (r9stream.L0.add d (r9stream.L0.F d))).1 (r9stream.L0.ex0 (r9stream.L0.add d (r9stream.L0.F d))).2)) : ∀ d, r9stream.L0.Pre d → ∃ n, lrun Try.prog r9stream.G r9stream.an 0 Try.f17 0 n (r9stream.L0.st d) (fun e s => some (e, s)) = (r9stream.L0.out (r9stream.L0.add d (r9stream.L0.F d))).eval := lrun_one (F := fun d => r9stream.L0.add d (r9stream.L0.F d)) μ h
theorem r9stream.L0.step {R : Type} (n_2 : Int) (key_2 : (List Int)) (outL : Nat) (i : Int) (n41 : (List Int)) (kn : AS → Option R) (kx : Exit → AS → Option R) : lround Try.prog r9stream.G r9stream.an 0 Try.f17 0 (r9stream.L0.st (n_2, key_2, outL, i, n41)) kn kx =
  sel ((ilt ((outL : Nat) : Int) n_2)) (
   obind (r9eight.call i) fun x1 =>
   obind (rtag.call ((⟨#[115, 116, 114, 101, 97, 109]⟩ : ByteArray), [(cut key_2 0 32), x1])) fun x2 =>
   obind (r9stream.L1.call (n_2, key_2, outL, i, (0 : Int), x2, n41)) fun x3 =>
   kn (r9stream.L0.st (x3.1.1, x3.1.2.1, x3.2.1, (iadd .u64 x3.1.2.2 (1 : Int)), x3.2.2))) (
   kx (r9stream.L0.ex0 (outL, n41)).1 (r9stream.L0.ex0 (outL, n41)).2) := by kernel_rfl
theorem r9stream.L1.inj : ∀ d d', r9stream.L1.st d = r9stream.L1.st d' → d = d' := fun (n_3, key_3, outL_2, i_2, kv, n7, n41_2) (n_3', key_3', outL_2', i_2', kv', n7', n41_2') hEq => by
  have e0 : n_3 = n_3' := d_inj (t := (.int .i64)) (congrArg (fun s : AS => (s.slot 1)) hEq)
  have e1 : key_3 = key_3' := rptr_inj (t := (.arr 32 (.int .u8))) (congrArg (fun s : AS => (s.slot 2)) hEq)
  have e2 : outL_2 = outL_2' := congrArg (fun s : AS => srefLen (s.slot 5)) hEq
  have e3 : i_2 = i_2' := d_inj (t := (.int .u64)) (congrArg (fun s : AS => (s.slot 6)) hEq)
  have e4 : kv = kv' := d_inj (t := (.int .i64)) (congrArg (fun s : AS => (s.slot 8)) hEq)
  have e5 : n7 = n7' := d_inj (t := (.arr 32 (.int .u8))) (congrArg (fun s : AS => (entC (s.ent (.new 7 0)))) hEq)
  have e6 : n41_2 = n41_2' := vec_inj (e := 5) (t := (.int .u8)) (congrArg (fun s : AS => (entC (s.ent (.new 41 0)))) hEq)
  rw [e0, e1, e2, e3, e4, e5, e6]
theorem r9stream.L1.run {d : r9stream.L1.D} (h : r9stream.L1.Pre d) : r9stream.L1.call d = some (r9stream.L1.add d (r9stream.L1.F d)) := LEntry.of_run r9stream.L1.inj h
theorem r9stream.L1.byRounds (μ : r9stream.L1.D → Nat) (h : ∀ d, r9stream.L1.Pre d → (∃ d', r9stream.L1.Pre d' ∧ μ d' < μ d ∧ r9stream.L1.add d' (r9stream.L1.F d') = r9stream.L1.add d (r9stream.L1.F d) ∧ ∀ {R : Type} (kn : AS → Option R) (kx : Exit → AS → Option R), lround Try.prog r9stream.G r9stream.an 0 Try.f17 1 (r9stream.L1.st d) kn kx = kn (r9stream.L1.st d')) ∨ (∀ {R : Type} (kn : AS → Option R) (kx : Exit → AS → Option R), lround Try.prog r9stream.G r9stream.an 0 Try.f17 1 (r9stream.L1.st d) kn kx = kx (r9stream.L1.ex0 (r9stream.L1.add d (r9stream.L1.F d))).1 (r9stream.L1.ex0 (r9stream.L1.add d (r9stream.L1.F d))).2)) : ∀ d, r9stream.L1.Pre d → ∃ n, lrun Try.prog r9stream.G r9stream.an 0 Try.f17 1 n (r9stream.L1.st d) (fun e s => some (e, s)) = (r9stream.L1.out (r9stream.L1.add d (r9stream.L1.F d))).eval := lrun_one (F := fun d => r9stream.L1.add d (r9stream.L1.F d)) μ h
theorem r9stream.L1.step {R : Type} (n_3 : Int) (key_3 : (List Int)) (outL_2 : Nat) (i_2 : Int) (kv : Int) (n7 : (List Int)) (n41_2 : (List Int)) (kn : AS → Option R) (kx : Exit → AS → Option R) : lround Try.prog r9stream.G r9stream.an 0 Try.f17 1 (r9stream.L1.st (n_3, key_3, outL_2, i_2, kv, n7, n41_2)) kn kx =
  sel ((ilt kv (32 : Int))) (
   sel ((ilt ((outL_2 : Nat) : Int) n_3)) (
    sel (inb kv (32 : Int)) (
    sel (decide ((Int.toNat kv) < (List.length n7))) (
    sel (decide ((((Int.toNat kv) * 1) + 0) = (0 + ((Int.toNat kv) * 1)))) (
    sel (decide (outL_2 ≤ (List.length n41_2))) (
    sel (roomA (outL_2 + 1) 1) (
    kn (r9stream.L1.st (n_3, key_3, (outL_2 + 1), i_2, (iadd .i64 kv (1 : Int)), n7, ((List.take outL_2 n41_2) ++ [(nth (.int .u8) n7 (Int.toNat kv))])))) none) none) none) none) none) (
    kx (r9stream.L1.ex0 ((n_3, key_3, i_2), (outL_2, n41_2))).1 (r9stream.L1.ex0 ((n_3, key_3, i_2), (outL_2, n41_2))).2)) (
   kx (r9stream.L1.ex0 ((n_3, key_3, i_2), (outL_2, n41_2))).1 (r9stream.L1.ex0 ((n_3, key_3, i_2), (outL_2, n41_2))).2) := by kernel_rfl
theorem r9stream.eq {R : Type} (key : (List Int)) (n : Int) (k : GRes → Option R) : arun Try.prog r9stream.G r9stream.an 0 Try.f17 (r9stream.st (key, n)).1 (r9stream.st (key, n)).2 k =
  sel ((ilt n (0 : Int))) (
   k (r9stream.out ([] : List Int))) (
   sel ((igt n (65536 : Int))) (
    k (r9stream.out ([] : List Int))) (
    obind (r9stream.L0.call (n, key, 0, (0 : Int), ([] : List Int))) fun x7 =>
    sel (decide (0 = 0 ∧ (0 + x7.1) ≤ (List.length x7.2))) (
    k (r9stream.out (cut x7.2 0 x7.1))) none)) := by kernel_rfl


theorem r9stream.L1.ok : ∀ d, r9stream.L1.Pre d → ∃ n, lrun Try.prog r9stream.G r9stream.an 0 Try.f17 1 n (r9stream.L1.st d) (fun e s => some (e, s)) = (r9stream.L1.out (r9stream.L1.add d (r9stream.L1.F d))).eval := by
  refine r9stream.L1.byRounds (fun (n, key, m, i, kv, x, l) => 32 - kv.toNat) ?_
  rintro ⟨n, key, m, i, kv, x, l⟩ ⟨hx, h0, h1, hl, rfl, k, hk, rfl⟩
  have hx : x.length = 32 := hx
  have h0 : 0 ≤ n := h0
  obtain ⟨n, rfl⟩ := Int.eq_ofNat_of_zero_le h0
  have h1 : (n : Int) ≤ 65536 := h1
  have hl : (l.length : Int) ≤ n := hl
  by_cases h : k < 32 ∧ l.length < n
  · left
    obtain ⟨h2, h3⟩ := h
    have nx : nth (.int .u8) x k = x[k] := nth_lt (t := .int .u8) (by omega)
    have e : (x.drop k).take (n - l.length) = x[k] :: (x.drop (k + 1)).take (n - (l.length + 1)) := by
      rw [List.drop_eq_getElem_cons (by omega), show n - l.length = (n - (l.length + 1)) + 1 by omega, List.take_succ_cons]
    have e2 : (l ++ [x[k]]).length = l.length + 1 := by simp
    refine ⟨((n : Int), key, l.length + 1, i, ((k + 1 : Nat) : Int), x, l ++ [x[k]]), ⟨hx, by omega, h1, by rw [e2]; omega, e2.symm, k + 1, by omega, rfl⟩, by simp only [Int.toNat_natCast]; omega, ?_, fun kn kx => ?_⟩
    · simp only [r9stream.L1.add, r9stream.L1.F, Int.toNat_natCast, e2, e, List.append_assoc, List.cons_append, List.nil_append]
    · rw [r9stream.L1.step]
      simp (disch := omega) only [↓N.lt, ↓N.le, ↓N.gt, ↓N.ge, ↓N.eq, ↓N.ne, ↓N.ib, ↓N.ic, ↓N.nn, ↓N.nz, ↓N.dc, ↓N.rm, ↓N.an, ↓N.or, ↓N.no, ↓if_pos, ↓if_neg, ↓sel_true, ↓sel_false, ↓obind_some, if_pos, if_neg, obind_some, N.aNN, N.aNL, N.aLN, N.sNN, N.sNL, N.sLN, N.mNN, N.mNL, N.mLN, N.qNN, N.qNL, N.rNN, N.rNL, N.cN, N.cL, N.tL, Int.toNat_natCast, if_true, if_false, and_self, true_and, and_true, hx, Nat.mul_one, Nat.add_zero, Nat.zero_add, nx, List.take_length]
  · right
    have e : (x.drop k).take (n - l.length) = [] := by
      by_cases h2 : k < 32
      · rw [show n - l.length = 0 by omega, List.take_zero]
      · rw [List.drop_of_length_le (by omega), List.take_nil]
    intro R kn kx
    rw [r9stream.L1.step]
    simp only [r9stream.L1.add, r9stream.L1.F, Int.toNat_natCast, e, List.append_nil]
    by_cases h2 : k < 32
    · simp (disch := omega) only [↓N.lt, ↓N.le, ↓N.gt, ↓N.ge, ↓N.eq, ↓N.ne, ↓N.ib, ↓N.ic, ↓N.nn, ↓N.nz, ↓N.dc, ↓N.rm, ↓N.an, ↓N.or, ↓N.no, ↓if_pos, ↓if_neg, ↓sel_true, ↓sel_false, ↓obind_some, if_pos, if_neg, obind_some, N.aNN, N.aNL, N.aLN, N.sNN, N.sNL, N.sLN, N.mNN, N.mNL, N.mLN, N.qNN, N.qNL, N.rNN, N.rNL, N.cN, N.cL, N.tL, Int.toNat_natCast, if_true, if_false, and_self, true_and, and_true]
    · simp (disch := omega) only [↓N.lt, ↓N.le, ↓N.gt, ↓N.ge, ↓N.eq, ↓N.ne, ↓N.ib, ↓N.ic, ↓N.nn, ↓N.nz, ↓N.dc, ↓N.rm, ↓N.an, ↓N.or, ↓N.no, ↓if_pos, ↓if_neg, ↓sel_true, ↓sel_false, ↓obind_some, if_pos, if_neg, obind_some, N.aNN, N.aNL, N.aLN, N.sNN, N.sNL, N.sLN, N.mNN, N.mNL, N.mLN, N.qNN, N.qNL, N.rNN, N.rNL, N.cN, N.cL, N.tL, Int.toNat_natCast, if_true, if_false, and_self, true_and, and_true]
theorem strmN_cut (key : List Int) (n k : Nat) (h : n ≤ 32 * k) : (strmN key k).take n = strmT key n := by
  unfold strmT strm
  rcases Nat.le_total ((n + 31) / 32) k with h2 | h2
  · have e := strmN_take key ((n + 31) / 32) (k - (n + 31) / 32)
    rw [Nat.add_sub_cancel' h2] at e
    rw [← e, List.take_take, Nat.min_eq_left (by omega)]
  · rw [show k = (n + 31) / 32 by omega]
theorem r9stream.L0.ok : ∀ d, r9stream.L0.Pre d → ∃ n, lrun Try.prog r9stream.G r9stream.an 0 Try.f17 0 n (r9stream.L0.st d) (fun e s => some (e, s)) = (r9stream.L0.out (r9stream.L0.add d (r9stream.L0.F d))).eval := by
  refine r9stream.L0.byRounds (fun (n, key, m, i, l) => 4000 - i.toNat) ?_
  rintro ⟨n, key, m, i, l⟩ ⟨hk, h0, h1, rfl, k, hk4, rfl, rfl⟩
  have hk : key.length = 32 := hk
  have h0 : 0 ≤ n := h0
  obtain ⟨n, rfl⟩ := Int.eq_ofNat_of_zero_le h0
  have h1 : (n : Int) ≤ 65536 := h1
  have hN := strmN_length key k
  have hle : ((strmN key k).take n).length = min n (32 * k) := by rw [List.length_take, hN]
  simp only [Int.toNat_natCast]
  by_cases h : 32 * k < n
  · left
    have e0 : (strmN key k).take n = strmN key k := List.take_of_length_le (by omega)
    have e1 : iadd .u64 ((k : Nat) : Int) 1 = ((k + 1 : Nat) : Int) := by unfold iadd; rw [wrap_u64, vw_ofInt]; omega
    have p1 : rtag.Pre ((⟨#[115, 116, 114, 101, 97, 109]⟩ : ByteArray), [key, be8 (k : Int)]) := sts_pre hk (by rw [be8_length]; omega)
    have c1 : cut key 0 32 = key := cut_all key 32 (by omega)
    have e2 : rtag.add ((⟨#[115, 116, 114, 101, 97, 109]⟩ : ByteArray), [key, be8 (k : Int)]) (rtag.F ((⟨#[115, 116, 114, 101, 97, 109]⟩ : ByteArray), [key, be8 (k : Int)])) = smA key k := rfl
    have e3 : strmN key k ++ (smA key k).take (n - 32 * k) = (strmN key (k + 1)).take n := by
      rw [strmN, List.take_append, hN, List.take_of_length_le (by omega : (strmN key k).length ≤ n)]
    have p2 : r9stream.L1.Pre ((n : Int), key, 32 * k, (k : Int), 0, smA key k, strmN key k) := ⟨smA_length _ _, by omega, h1, by rw [hN]; omega, hN.symm, 0, by omega, rfl⟩
    refine ⟨((n : Int), key, ((strmN key (k + 1)).take n).length, ((k + 1 : Nat) : Int), (strmN key (k + 1)).take n), ⟨hk, by omega, h1, rfl, k + 1, by omega, rfl, rfl⟩, by simp only [Int.toNat_natCast]; omega, rfl, fun kn kx => ?_⟩
    rw [r9stream.L0.step]
    simp (disch := omega) only [↓N.lt, ↓N.le, ↓N.gt, ↓N.ge, ↓N.eq, ↓N.ne, ↓N.ib, ↓N.ic, ↓N.nn, ↓N.nz, ↓N.dc, ↓N.rm, ↓N.an, ↓N.or, ↓N.no, ↓if_pos, ↓if_neg, ↓sel_true, ↓sel_false, ↓obind_some, if_pos, if_neg, obind_some, N.aNN, N.aNL, N.aLN, N.sNN, N.sNL, N.sLN, N.mNN, N.mNL, N.mLN, N.qNN, N.qNL, N.rNN, N.rNL, N.cN, N.cL, N.tL, Int.toNat_natCast, if_true, if_false, and_self, true_and, and_true, e0, hN, r9eight.run (d := (k : Int)) trivial, r9eight.add, r9eight.F, c1, rtag.run p1, e2, r9stream.L1.run p2, r9stream.L1.add, r9stream.L1.F, Int.toNat_zero, List.drop_zero, e1, e3]
  · right
    intro R kn kx
    rw [r9stream.L0.step]
    have hl2 : ((strmN key k).take n).length = n := by omega
    simp (disch := omega) only [↓N.lt, ↓N.le, ↓N.gt, ↓N.ge, ↓N.eq, ↓N.ne, ↓N.ib, ↓N.ic, ↓N.nn, ↓N.nz, ↓N.dc, ↓N.rm, ↓N.an, ↓N.or, ↓N.no, ↓if_pos, ↓if_neg, ↓sel_true, ↓sel_false, ↓obind_some, if_pos, if_neg, obind_some, N.aNN, N.aNL, N.aLN, N.sNN, N.sNL, N.sLN, N.mNN, N.mNL, N.mLN, N.qNN, N.qNL, N.rNN, N.rNL, N.cN, N.cL, N.tL, Int.toNat_natCast, if_true, if_false, and_self, true_and, and_true, hl2, r9stream.L0.add, r9stream.L0.F]
    rw [strmN_cut key n k (by omega)]
theorem r9stream.ok : ∀ d, r9stream.Pre d → arun Try.prog r9stream.G r9stream.an 0 Try.f17 (r9stream.st d).1 (r9stream.st d).2 some = some (r9stream.out (r9stream.add d (r9stream.F d))) := by
  rintro ⟨key, n⟩ hk
  have hk : key.length = 32 := hk
  simp only [r9stream.add, r9stream.F]
  rw [r9stream.eq]
  by_cases h1 : n < 0
  · rw [if_pos (.inl h1)]
    simp (disch := omega) only [↓N.lt, ↓N.le, ↓N.gt, ↓N.ge, ↓N.eq, ↓N.ne, ↓N.ib, ↓N.ic, ↓N.nn, ↓N.nz, ↓N.dc, ↓N.rm, ↓N.an, ↓N.or, ↓N.no, ↓if_pos, ↓if_neg, ↓sel_true, ↓sel_false, ↓obind_some, if_pos, if_neg, obind_some, N.aNN, N.aNL, N.aLN, N.sNN, N.sNL, N.sLN, N.mNN, N.mNL, N.mLN, N.qNN, N.qNL, N.rNN, N.rNL, N.cN, N.cL, N.tL, Int.toNat_natCast, if_true, if_false, and_self, true_and, and_true]
  by_cases h2 : 65536 < n
  · rw [if_pos (.inr h2)]
    simp (disch := omega) only [↓N.lt, ↓N.le, ↓N.gt, ↓N.ge, ↓N.eq, ↓N.ne, ↓N.ib, ↓N.ic, ↓N.nn, ↓N.nz, ↓N.dc, ↓N.rm, ↓N.an, ↓N.or, ↓N.no, ↓if_pos, ↓if_neg, ↓sel_true, ↓sel_false, ↓obind_some, if_pos, if_neg, obind_some, N.aNN, N.aNL, N.aLN, N.sNN, N.sNL, N.sLN, N.mNN, N.mNL, N.mLN, N.qNN, N.qNL, N.rNN, N.rNL, N.cN, N.cL, N.tL, Int.toNat_natCast, if_true, if_false, and_self, true_and, and_true]
  rw [if_neg (by omega)]
  obtain ⟨n, rfl⟩ := Int.eq_ofNat_of_zero_le (by omega : 0 ≤ n)
  have p1 : r9stream.L0.Pre ((n : Int), key, 0, 0, []) := ⟨hk, by omega, by omega, rfl, 0, by omega, rfl, by simp [strmN]⟩
  simp (disch := omega) only [↓N.lt, ↓N.le, ↓N.gt, ↓N.ge, ↓N.eq, ↓N.ne, ↓N.ib, ↓N.ic, ↓N.nn, ↓N.nz, ↓N.dc, ↓N.rm, ↓N.an, ↓N.or, ↓N.no, ↓if_pos, ↓if_neg, ↓sel_true, ↓sel_false, ↓obind_some, if_pos, if_neg, obind_some, N.aNN, N.aNL, N.aLN, N.sNN, N.sNL, N.sLN, N.mNN, N.mNL, N.mLN, N.qNN, N.qNL, N.rNN, N.rNL, N.cN, N.cL, N.tL, Int.toNat_natCast, if_true, if_false, and_self, true_and, and_true, r9stream.L0.run p1, r9stream.L0.add, r9stream.L0.F, Nat.zero_add, strmT_length, cut_all (strmT key n) n (by rw [strmT_length]; omega)]

theorem r9stream.inj : ∀ d d', r9stream.st d = r9stream.st d' → d = d' := fun (key, n) (key', n') hEq => by
  have e0 : key = key' := d_inj (t := (.arr 32 (.int .u8))) (congrArg (fun s : List AVal × List Ent => (s.1.getD 0 .undef)) hEq)
  have e1 : n = n' := d_inj (t := (.int .i64)) (congrArg (fun s : List AVal × List Ent => (s.1.getD 1 .undef)) hEq)
  rw [e0, e1]
noncomputable def r9stream.E : Entry := Entry.of [some (.arr 32 (.int .u8)), some (.int .i64)] r9stream.st r9stream.Pre (fun d => r9stream.add d (r9stream.F d)) r9stream.out
noncomputable def r9stream.call : r9stream.D → Option r9stream.X := fun d => r9stream.E.run (r9stream.st d).1 (r9stream.st d).2
theorem r9stream.run {d : r9stream.D} (h : r9stream.Pre d) : r9stream.call d = some (r9stream.add d (r9stream.F d)) := Entry.of_run r9stream.inj h
theorem r9stream.does : Does Try.prog 17 r9stream.E := Does.of (by kernel_rfl) (show Sound _ r9stream.G from Sound.cons r9eight.does (Sound.cons rtag.does (Sound.nil _))) (by kernel_rfl) (by kernel_rfl) (by kernel_rfl) (LOk.fn 2 (by kernel_rfl) (And.intro (LDo.of (by kernel_rfl) r9stream.L0.ok) (And.intro (LDo.of (by kernel_rfl) r9stream.L1.ok) trivial))) r9stream.ok


theorem r9stream.in {key : List Int} {n : Nat} (hk : key.length = 32) (h : n ≤ 65536) : r9stream.call (key, (n : Int)) = some (strmT key n) := by
  rw [r9stream.run (show r9stream.Pre (key, (n : Int)) from hk)]
  simp only [r9stream.add, r9stream.F, Int.toNat_natCast]
  rw [if_neg (by omega)]

end Go.Ab
