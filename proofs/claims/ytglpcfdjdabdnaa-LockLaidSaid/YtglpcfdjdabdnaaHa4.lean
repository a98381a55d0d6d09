/-
  Made by a program of mine (wip/gen), and by hand.
-/
import Derived.Test.YtglpcfdjdabdnaaHa3
namespace Go.Ab
open Go.Proofs
set_option maxRecDepth 100000
set_option linter.unusedVariables false
set_option linter.unusedSimpArgs false


theorem long_byte (n : Int) (k : Int) (h0 : 0 ≤ k) (h1 : k ≤ 64) : icv .u8 (ishr .i64 n k) = n / 2 ^ k.toNat % 256 := by
  rw [icv_u8, vw_ofInt, ishr]
  have e : min k.toNat IntKind.i64.bits = k.toNat := by simp only [IntKind.bits]; omega
  rw [e, Int.fdiv_eq_ediv_of_nonneg _ (Int.le_of_lt (Int.pow_pos (by omega)))]
  rfl
theorem room1 {n : Nat} (h : n ≤ 140737488355328) : roomA n 1 = true := room_true (by omega) (by omega)

/-! ### slices.Clone[[]byte,byte] -/
abbrev clone8.D := (List Int)
def clone8.st : clone8.D → List AVal × List Ent := fun sv => ([.d (.slice (.int .u8)) sv], [])
abbrev clone8.Y := Nat × (List Int)
abbrev clone8.X := Nat × (List Int)
def clone8.out : clone8.X → GRes := fun x => ⟨.sref (.new 0 0) 0 [] 0 0 x.1, [], [.obj 0 false (.vec 5 (.int .u8) x.2)]⟩
def clone8.add : clone8.D → clone8.Y → clone8.X := fun sv y => y


def clone8.Pre : clone8.D → Prop := fun b => b.length ≤ 140737488355328
def clone8.F : clone8.D → clone8.Y := fun b => (b.length, b)

noncomputable def clone8.G : Gam := gnil
noncomputable def clone8.an : Ann := {
  objs := [5],
  loops := fun r => { keep := [], sites := [], frz := [], data := [], owns := [] },
  outs := fun r b => { keep := [], sites := [], frz := [], data := [], owns := [] },
  sums := fun r => none,
  owns := [⟨2, [], 5, 52⟩],
  trim := [],
  res := [] }
theorem clone8.eq {R : Type} (sv : (List Int)) (k : GRes → Option R) : arun Try.prog clone8.G clone8.an 0 Try.f45 (clone8.st sv).1 (clone8.st sv).2 k =
  sel (decide (0 < (List.length sv))) (
   sel (roomA (0 + (List.length sv)) 1) (
   k (clone8.out ((0 + (List.length sv)), ((List.take 0 (List.replicate 0 (0 : Int))) ++ sv)))) none) (
   nd (
    k (clone8.out (0, ([] : List Int)))) (
    sel (roomA (0 + (List.length sv)) 1) (
    k (clone8.out ((0 + (List.length sv)), ((List.take 0 (List.replicate 0 (0 : Int))) ++ sv)))) none)) := by kernel_rfl


theorem clone8.ok : ∀ d, clone8.Pre d → arun Try.prog clone8.G clone8.an 0 Try.f45 (clone8.st d).1 (clone8.st d).2 some = some (clone8.out (clone8.add d (clone8.F d))) := by
  intro b hb
  have hr : roomA b.length 1 = true := room1 hb
  rw [clone8.eq]
  have e0 : (List.take 0 (List.replicate 0 0) : List Int) = [] := rfl
  simp only [Nat.zero_add, hr, sel_true, e0, List.nil_append, clone8.add, clone8.F]
  by_cases h : 0 < b.length
  · simp only [dec_true h, sel_true]
  · have : b = [] := List.eq_nil_of_length_eq_zero (by omega)
    subst this
    simp only [List.length_nil, nd_same, dec_false (Nat.lt_irrefl 0), sel_false]

theorem clone8.inj : ∀ d d', clone8.st d = clone8.st d' → d = d' := fun sv sv' hEq => by
  have e0 : sv = sv' := d_inj (t := (.slice (.int .u8))) (congrArg (fun s : List AVal × List Ent => (s.1.getD 0 .undef)) hEq)
  rw [e0]
noncomputable def clone8.E : Entry := Entry.of [some (.slice (.int .u8))] clone8.st clone8.Pre (fun d => clone8.add d (clone8.F d)) clone8.out
noncomputable def clone8.call : clone8.D → Option clone8.X := fun d => clone8.E.run (clone8.st d).1 (clone8.st d).2
theorem clone8.run {d : clone8.D} (h : clone8.Pre d) : clone8.call d = some (clone8.add d (clone8.F d)) := Entry.of_run clone8.inj h
theorem clone8.does : Does Try.prog 45 clone8.E := Does.of (by kernel_rfl) (show Sound _ clone8.G from Sound.nil _) (by kernel_rfl) (by kernel_rfl) (by kernel_rfl) (LOk.fn 0 (by kernel_rfl) trivial) clone8.ok

/-! ### corsned/hash.long -/
abbrev longn.D := Int
def longn.st : longn.D → List AVal × List Ent := fun n => ([.nils, .d (.int .i64) n], [])
abbrev longn.Y := Nat × (List Int)
abbrev longn.X := Nat × (List Int)
def longn.out : longn.X → GRes := fun x => ⟨.sref (.new 0 0) 0 [] 0 0 x.1, [], [.obj 0 false (.vec 5 (.int .u8) x.2)]⟩
def longn.add : longn.D → longn.Y → longn.X := fun n y => y


def longn.Pre : longn.D → Prop := fun _ => True
def longn.F : longn.D → longn.Y := fun n => (8, be8 n)

noncomputable def longn.G : Gam := gnil
noncomputable def longn.an : Ann := {
  objs := [],
  loops := fun r => bif Nat.beq r 2 then { keep := [0, 1, 5], sites := [16], frz := [], data := [], owns := [] } else { keep := [], sites := [], frz := [], data := [], owns := [] },
  outs := fun r b => bif Nat.beq r 2 then (bif b then { keep := [4], sites := [16], frz := [], data := [], owns := [] } else { keep := [0], sites := [16], frz := [], data := [], owns := [] }) else { keep := [], sites := [], frz := [], data := [], owns := [] },
  sums := fun r => none,
  owns := [⟨4, [], 16, 52⟩],
  trim := [],
  res := [] }
theorem longn.eq {R : Type} (n : Int) (k : GRes → Option R) : arun Try.prog longn.G longn.an 12 Try.f49 (longn.st n).1 (longn.st n).2 k =
  k (longn.out (8, [(icv .u8 (ishr .i64 n (56 : Int))), (icv .u8 (ishr .i64 n (48 : Int))), (icv .u8 (ishr .i64 n (40 : Int))), (icv .u8 (ishr .i64 n (32 : Int))), (icv .u8 (ishr .i64 n (24 : Int))), (icv .u8 (ishr .i64 n (16 : Int))), (icv .u8 (ishr .i64 n (8 : Int))), (icv .u8 (ishr .i64 n (0 : Int)))])) := by kernel_rfl


theorem be8_eq (n : Int) : [icv .u8 (ishr .i64 n 56), icv .u8 (ishr .i64 n 48), icv .u8 (ishr .i64 n 40), icv .u8 (ishr .i64 n 32), icv .u8 (ishr .i64 n 24), icv .u8 (ishr .i64 n 16), icv .u8 (ishr .i64 n 8), icv .u8 (ishr .i64 n 0)] = be8 n := by
  rw [long_byte n 56 (by omega) (by omega), long_byte n 48 (by omega) (by omega), long_byte n 40 (by omega) (by omega), long_byte n 32 (by omega) (by omega), long_byte n 24 (by omega) (by omega), long_byte n 16 (by omega) (by omega), long_byte n 8 (by omega) (by omega), long_byte n 0 (by omega) (by omega)]
  simp [be8]
theorem longn.ok : ∀ d, longn.Pre d → arun Try.prog longn.G longn.an 12 Try.f49 (longn.st d).1 (longn.st d).2 some = some (longn.out (longn.add d (longn.F d))) := by
  intro n _
  rw [longn.eq, be8_eq]
  rfl

theorem longn.inj : ∀ d d', longn.st d = longn.st d' → d = d' := fun n n' hEq => by
  have e0 : n = n' := d_inj (t := (.int .i64)) (congrArg (fun s : List AVal × List Ent => (s.1.getD 1 .undef)) hEq)
  rw [e0]
noncomputable def longn.E : Entry := Entry.of [none, some (.int .i64)] longn.st longn.Pre (fun d => longn.add d (longn.F d)) longn.out
noncomputable def longn.call : longn.D → Option longn.X := fun d => longn.E.run (longn.st d).1 (longn.st d).2
theorem longn.run {d : longn.D} (h : longn.Pre d) : longn.call d = some (longn.add d (longn.F d)) := Entry.of_run longn.inj h
theorem longn.does : Does Try.prog 49 longn.E := Does.of (by kernel_rfl) (show Sound _ longn.G from Sound.nil _) (by kernel_rfl) (by kernel_rfl) (by kernel_rfl) (LOk.fn 1 (by kernel_rfl) (And.intro (LDo.none (by kernel_rfl)) trivial)) longn.ok

/-! ### corsned/hash.long -/
abbrev longs.D := Nat × Int × (List Int)
def longs.st : longs.D → List AVal × List Ent := fun (bL, n, o0) => ([.sref (.old 0) 0 [] 0 0 bL, .d (.int .i64) n], [.obj 0 false (.vec 5 (.int .u8) o0)])
abbrev longs.Y := Nat × (List Int)
abbrev longs.X := Nat × (List Int)
def longs.out : longs.X → GRes := fun x => ⟨.sref (.old 0) 8 [] 0 0 x.1, [.obj 8 false (.vec 5 (.int .u8) x.2)], []⟩
def longs.add : longs.D → longs.Y → longs.X := fun (bL, n, o0) y => y


def longs.Pre : longs.D → Prop := fun (m, n, l) => m = l.length ∧ l.length ≤ 140737488355320
def longs.F : longs.D → longs.Y := fun (m, n, l) => (l.length + 8, l ++ be8 n)

noncomputable def longs.G : Gam := gnil
noncomputable def longs.an : Ann := {
  objs := [],
  loops := fun r => bif Nat.beq r 2 then { keep := [0, 1, 5], sites := [16], frz := [], data := [], owns := [] } else { keep := [], sites := [], frz := [], data := [], owns := [] },
  outs := fun r b => bif Nat.beq r 2 then (bif b then { keep := [4], sites := [16], frz := [], data := [], owns := [] } else { keep := [0], sites := [16], frz := [], data := [], owns := [] }) else { keep := [], sites := [], frz := [], data := [], owns := [] },
  sums := fun r => none,
  owns := [],
  trim := [],
  res := [] }
theorem longs.eq {R : Type} (bL : Nat) (n : Int) (o0 : (List Int)) (k : GRes → Option R) : arun Try.prog longs.G longs.an 12 Try.f49 (longs.st (bL, n, o0)).1 (longs.st (bL, n, o0)).2 k =
  sel (decide (bL ≤ (List.length o0))) (
  sel (roomA (bL + 1) 1) (
  sel (decide ((bL + 1) ≤ (List.length ((List.take bL o0) ++ [(icv .u8 (ishr .i64 n (56 : Int)))])))) (
  sel (roomA ((bL + 1) + 1) 1) (
  sel (decide (((bL + 1) + 1) ≤ (List.length ((List.take (bL + 1) ((List.take bL o0) ++ [(icv .u8 (ishr .i64 n (56 : Int)))])) ++ [(icv .u8 (ishr .i64 n (48 : Int)))])))) (
  sel (roomA (((bL + 1) + 1) + 1) 1) (
  sel (decide ((((bL + 1) + 1) + 1) ≤ (List.length ((List.take ((bL + 1) + 1) ((List.take (bL + 1) ((List.take bL o0) ++ [(icv .u8 (ishr .i64 n (56 : Int)))])) ++ [(icv .u8 (ishr .i64 n (48 : Int)))])) ++ [(icv .u8 (ishr .i64 n (40 : Int)))])))) (
  sel (roomA ((((bL + 1) + 1) + 1) + 1) 1) (
  sel (decide (((((bL + 1) + 1) + 1) + 1) ≤ (List.length ((List.take (((bL + 1) + 1) + 1) ((List.take ((bL + 1) + 1) ((List.take (bL + 1) ((List.take bL o0) ++ [(icv .u8 (ishr .i64 n (56 : Int)))])) ++ [(icv .u8 (ishr .i64 n (48 : Int)))])) ++ [(icv .u8 (ishr .i64 n (40 : Int)))])) ++ [(icv .u8 (ishr .i64 n (32 : Int)))])))) (
  sel (roomA (((((bL + 1) + 1) + 1) + 1) + 1) 1) (
  sel (decide ((((((bL + 1) + 1) + 1) + 1) + 1) ≤ (List.length ((List.take ((((bL + 1) + 1) + 1) + 1) ((List.take (((bL + 1) + 1) + 1) ((List.take ((bL + 1) + 1) ((List.take (bL + 1) ((List.take bL o0) ++ [(icv .u8 (ishr .i64 n (56 : Int)))])) ++ [(icv .u8 (ishr .i64 n (48 : Int)))])) ++ [(icv .u8 (ishr .i64 n (40 : Int)))])) ++ [(icv .u8 (ishr .i64 n (32 : Int)))])) ++ [(icv .u8 (ishr .i64 n (24 : Int)))])))) (
  sel (roomA ((((((bL + 1) + 1) + 1) + 1) + 1) + 1) 1) (
  sel (decide (((((((bL + 1) + 1) + 1) + 1) + 1) + 1) ≤ (List.length ((List.take (((((bL + 1) + 1) + 1) + 1) + 1) ((List.take ((((bL + 1) + 1) + 1) + 1) ((List.take (((bL + 1) + 1) + 1) ((List.take ((bL + 1) + 1) ((List.take (bL + 1) ((List.take bL o0) ++ [(icv .u8 (ishr .i64 n (56 : Int)))])) ++ [(icv .u8 (ishr .i64 n (48 : Int)))])) ++ [(icv .u8 (ishr .i64 n (40 : Int)))])) ++ [(icv .u8 (ishr .i64 n (32 : Int)))])) ++ [(icv .u8 (ishr .i64 n (24 : Int)))])) ++ [(icv .u8 (ishr .i64 n (16 : Int)))])))) (
  sel (roomA (((((((bL + 1) + 1) + 1) + 1) + 1) + 1) + 1) 1) (
  sel (decide ((((((((bL + 1) + 1) + 1) + 1) + 1) + 1) + 1) ≤ (List.length ((List.take ((((((bL + 1) + 1) + 1) + 1) + 1) + 1) ((List.take (((((bL + 1) + 1) + 1) + 1) + 1) ((List.take ((((bL + 1) + 1) + 1) + 1) ((List.take (((bL + 1) + 1) + 1) ((List.take ((bL + 1) + 1) ((List.take (bL + 1) ((List.take bL o0) ++ [(icv .u8 (ishr .i64 n (56 : Int)))])) ++ [(icv .u8 (ishr .i64 n (48 : Int)))])) ++ [(icv .u8 (ishr .i64 n (40 : Int)))])) ++ [(icv .u8 (ishr .i64 n (32 : Int)))])) ++ [(icv .u8 (ishr .i64 n (24 : Int)))])) ++ [(icv .u8 (ishr .i64 n (16 : Int)))])) ++ [(icv .u8 (ishr .i64 n (8 : Int)))])))) (
  sel (roomA ((((((((bL + 1) + 1) + 1) + 1) + 1) + 1) + 1) + 1) 1) (
  k (longs.out (((((((((bL + 1) + 1) + 1) + 1) + 1) + 1) + 1) + 1), ((List.take (((((((bL + 1) + 1) + 1) + 1) + 1) + 1) + 1) ((List.take ((((((bL + 1) + 1) + 1) + 1) + 1) + 1) ((List.take (((((bL + 1) + 1) + 1) + 1) + 1) ((List.take ((((bL + 1) + 1) + 1) + 1) ((List.take (((bL + 1) + 1) + 1) ((List.take ((bL + 1) + 1) ((List.take (bL + 1) ((List.take bL o0) ++ [(icv .u8 (ishr .i64 n (56 : Int)))])) ++ [(icv .u8 (ishr .i64 n (48 : Int)))])) ++ [(icv .u8 (ishr .i64 n (40 : Int)))])) ++ [(icv .u8 (ishr .i64 n (32 : Int)))])) ++ [(icv .u8 (ishr .i64 n (24 : Int)))])) ++ [(icv .u8 (ishr .i64 n (16 : Int)))])) ++ [(icv .u8 (ishr .i64 n (8 : Int)))])) ++ [(icv .u8 (ishr .i64 n (0 : Int)))])))) none) none) none) none) none) none) none) none) none) none) none) none) none) none) none) none := by kernel_rfl


theorem longs.ok : ∀ d, longs.Pre d → arun Try.prog longs.G longs.an 12 Try.f49 (longs.st d).1 (longs.st d).2 some = some (longs.out (longs.add d (longs.F d))) := by
  rintro ⟨m, n, l⟩ ⟨rfl, hl⟩
  have hl : l.length ≤ 140737488355320 := hl
  rw [longs.eq]
  simp only [Nat.le_refl, decide_true, sel_true, List.take_of_length_le, List.length_append, List.length_cons, List.length_nil, Nat.zero_add]
  rw [room1 (by omega), room1 (by omega), room1 (by omega), room1 (by omega), room1 (by omega), room1 (by omega), room1 (by omega), room1 (by omega)]
  simp only [sel_true, longs.add, longs.F, ← be8_eq, List.append_assoc, List.cons_append, List.nil_append]

theorem longs.inj : ∀ d d', longs.st d = longs.st d' → d = d' := fun (bL, n, o0) (bL', n', o0') hEq => by
  have e0 : bL = bL' := congrArg (fun s : List AVal × List Ent => srefLen (s.1.getD 0 .undef)) hEq
  have e1 : n = n' := d_inj (t := (.int .i64)) (congrArg (fun s : List AVal × List Ent => (s.1.getD 1 .undef)) hEq)
  have e2 : o0 = o0' := vec_inj (e := 5) (t := (.int .u8)) (congrArg (fun s : List AVal × List Ent => (entD (s.2.getD 0 .dead))) hEq)
  rw [e0, e1, e2]
noncomputable def longs.E : Entry := Entry.of [none, some (.int .i64)] longs.st longs.Pre (fun d => longs.add d (longs.F d)) longs.out
noncomputable def longs.call : longs.D → Option longs.X := fun d => longs.E.run (longs.st d).1 (longs.st d).2
theorem longs.run {d : longs.D} (h : longs.Pre d) : longs.call d = some (longs.add d (longs.F d)) := Entry.of_run longs.inj h
theorem longs.does : Does Try.prog 49 longs.E := Does.of (by kernel_rfl) (show Sound _ longs.G from Sound.nil _) (by kernel_rfl) (by kernel_rfl) (by kernel_rfl) (LOk.fn 1 (by kernel_rfl) (And.intro (LDo.none (by kernel_rfl)) trivial)) longs.ok

end Go.Ab
