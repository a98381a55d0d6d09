/-
  Made by a program of mine (wip/gen), and by hand.
-/
import Derived.Test.YtglpcfdjdabdnaaRq1
namespace Go.Ab
open Go.Proofs
set_option maxRecDepth 100000
set_option linter.unusedVariables false
set_option linter.unusedSimpArgs false

/-! ### corsned/corsnedref12.branch -/
abbrev r12branch.L0.D := ((List Int) × (Int × (Int × (Int × Unit)))) × Int
def r12branch.L0.st : r12branch.L0.D → AS := fun (b_2, i) => ⟨([.undef, .rptr (.pair (.slice (.int .u64)) (.pair (.int .i64) (.pair (.int .i64) (.pair (.int .u64) .unit)))) b_2, .undef, .d (.int .i64) i] ++ undN 50 []), [], (List.replicate 54 [])⟩
abbrev r12branch.L0.Y0 := Unit
abbrev r12branch.L0.X0 := Unit
def r12branch.L0.ex0 : r12branch.L0.X0 → Exit × AS := fun x => (.ret, ⟨([.undef, .undef, .d .bool false] ++ undN 51 []), [], (List.replicate 54 [])⟩)
abbrev r12branch.L0.Y1 := Unit
abbrev r12branch.L0.X1 := ((List Int) × (Int × (Int × (Int × Unit))))
def r12branch.L0.ex1 : r12branch.L0.X1 → Exit × AS := fun x => (.exit 0, ⟨([.undef, .rptr (.pair (.slice (.int .u64)) (.pair (.int .i64) (.pair (.int .i64) (.pair (.int .u64) .unit)))) x] ++ undN 52 []), [], (List.replicate 54 [])⟩)
abbrev r12branch.L0.X := (r12branch.L0.X0) ⊕ (r12branch.L0.X1)
abbrev r12branch.L0.Y := (r12branch.L0.Y0) ⊕ (r12branch.L0.Y1)
def r12branch.L0.out : r12branch.L0.X → Out (Exit × AS) := fun x => .br x.isLeft (.get x.getLeft? fun a => .ok (r12branch.L0.ex0 a)) (.get x.getRight? fun b => .ok (r12branch.L0.ex1 b))
def r12branch.L0.add : r12branch.L0.D → r12branch.L0.Y → r12branch.L0.X := fun (b_2, i) y => match y with | .inl y => .inl y | .inr z => .inr (b_2)
abbrev r12branch.D := ((List Int) × (Int × (Int × (Int × Unit))))
def r12branch.st : r12branch.D → List AVal × List Ent := fun b => ([.d (.pair (.slice (.int .u64)) (.pair (.int .i64) (.pair (.int .i64) (.pair (.int .u64) .unit)))) b], [])
abbrev r12branch.Y := Bool
abbrev r12branch.X := Bool
def r12branch.out : r12branch.X → GRes := fun x => ⟨.d .bool x, [], []⟩
def r12branch.add : r12branch.D → r12branch.Y → r12branch.X := fun b y => y


def r12branch.L0.Pre : r12branch.L0.D → Prop := fun (b, i) => BrU b ∧ b.1.length ≤ 1000000000 ∧ ∃ k : Nat, k ≤ b.1.length ∧ i = k
def r12branch.L0.F : r12branch.L0.D → r12branch.L0.Y := fun (b, i) => if (b.1.drop i.toNat).all isP then .inr () else .inl ()
def r12branch.Pre : r12branch.D → Prop := fun b => BrU b
def r12branch.F : r12branch.D → r12branch.Y := fun b => brOk b

noncomputable def r12branch.G : Gam := gcons 76 anyArgs r6right.E (gnil)
noncomputable def r12branch.L0.E : LEntry := LEntry.of r12branch.L0.st r12branch.L0.Pre (fun d => r12branch.L0.add d (r12branch.L0.F d)) r12branch.L0.out
noncomputable def r12branch.L0.call : r12branch.L0.D → Option r12branch.L0.X := fun d => r12branch.L0.E.run (r12branch.L0.st d)
noncomputable def r12branch.an : Ann := {
  objs := [],
  loops := fun r => bif Nat.beq r 4 then { keep := [1, 3], sites := [], frz := [], data := [], owns := [] } else { keep := [], sites := [], frz := [], data := [], owns := [] },
  outs := fun r b => bif Nat.beq r 4 then (bif b then { keep := [2], sites := [], frz := [], data := [], owns := [] } else { keep := [1], sites := [], frz := [], data := [], owns := [] }) else { keep := [], sites := [], frz := [], data := [], owns := [] },
  sums := fun r => bif Nat.beq r 4 then some r12branch.L0.E else none,
  owns := [],
  trim := [],
  res := [] }
theorem r12branch.L0.inj : ∀ d d', r12branch.L0.st d = r12branch.L0.st d' → d = d' := fun (b_2, i) (b_2', i') hEq => by
  have e0 : b_2 = b_2' := rptr_inj (t := (.pair (.slice (.int .u64)) (.pair (.int .i64) (.pair (.int .i64) (.pair (.int .u64) .unit))))) (congrArg (fun s : AS => (s.slot 1)) hEq)
  have e1 : i = i' := d_inj (t := (.int .i64)) (congrArg (fun s : AS => (s.slot 3)) hEq)
  rw [e0, e1]
theorem r12branch.L0.run {d : r12branch.L0.D} (h : r12branch.L0.Pre d) : r12branch.L0.call d = some (r12branch.L0.add d (r12branch.L0.F d)) := LEntry.of_run r12branch.L0.inj h
theorem r12branch.L0.byRounds (μ : r12branch.L0.D → Nat) (h : ∀ d, r12branch.L0.Pre d → (∃ d', r12branch.L0.Pre d' ∧ μ d' < μ d ∧ r12branch.L0.add d' (r12branch.L0.F d') = r12branch.L0.add d (r12branch.L0.F d) ∧ ∀ {R : Type} (kn : AS → Option R) (kx : Exit → AS → Option R), lround Try.prog r12branch.G r12branch.an 0 Try.f57 0 (r12branch.L0.st d) kn kx = kn (r12branch.L0.st d')) ∨ (∃ r, (r12branch.L0.out (r12branch.L0.add d (r12branch.L0.F d))).eval = some r ∧ ∀ {R : Type} (kn : AS → Option R) (kx : Exit → AS → Option R), lround Try.prog r12branch.G r12branch.an 0 Try.f57 0 (r12branch.L0.st d) kn kx = kx r.1 r.2)) : ∀ d, r12branch.L0.Pre d → ∃ n, lrun Try.prog r12branch.G r12branch.an 0 Try.f57 0 n (r12branch.L0.st d) (fun e s => some (e, s)) = (r12branch.L0.out (r12branch.L0.add d (r12branch.L0.F d))).eval := lrun_of (F := fun d => r12branch.L0.add d (r12branch.L0.F d)) (out := r12branch.L0.out) μ h
theorem r12branch.L0.step {R : Type} (b_2 : ((List Int) × (Int × (Int × (Int × Unit))))) (i : Int) (kn : AS → Option R) (kx : Exit → AS → Option R) : lround Try.prog r12branch.G r12branch.an 0 Try.f57 0 (r12branch.L0.st (b_2, i)) kn kx =
  sel ((ilt i (((List.length b_2.1) : Nat) : Int))) (
   sel (inb i (((List.length b_2.1) : Nat) : Int)) (
   obind (r6right.call (nth (.int .u64) b_2.1 (Int.toNat i))) fun x1 =>
   sel ((!x1)) (
    kx (r12branch.L0.ex0 ()).1 (r12branch.L0.ex0 ()).2) (
    kn (r12branch.L0.st (b_2, (iadd .i64 i (1 : Int)))))) none) (
   kx (r12branch.L0.ex1 b_2).1 (r12branch.L0.ex1 b_2).2) := by kernel_rfl
theorem r12branch.eq {R : Type} (b : ((List Int) × (Int × (Int × (Int × Unit))))) (k : GRes → Option R) : arun Try.prog r12branch.G r12branch.an 0 Try.f57 (r12branch.st b).1 (r12branch.st b).2 k =
  sel ((igt (((List.length b.1) : Nat) : Int) (12 : Int))) (
   k (r12branch.out false)) (
   sel ((ilt b.2.1 (0 : Int))) (
    k (r12branch.out false)) (
    sel ((igt b.2.1 (1048576 : Int))) (
     k (r12branch.out false)) (
     sel ((ilt b.2.2.1 (0 : Int))) (
      k (r12branch.out false)) (
      sel ((igt b.2.2.1 (1048576 : Int))) (
       k (r12branch.out false)) (
       obind (r12branch.L0.call (b, (0 : Int))) fun x2 =>
       sel (x2.isLeft) (
        obind (x2.getLeft?) fun a3 =>
        k (r12branch.out false)) (
        obind (x2.getRight?) fun b4 =>
        obind (r6right.call b4.2.2.2.1) fun x5 =>
        sel ((ieq b4.2.2.2.1 (0 : Int))) (
         k (r12branch.out true)) (
         k (r12branch.out x5)))))))) := by kernel_rfl


theorem r12branch.L0.ok : ∀ d, r12branch.L0.Pre d → ∃ n, lrun Try.prog r12branch.G r12branch.an 0 Try.f57 0 n (r12branch.L0.st d) (fun e s => some (e, s)) = (r12branch.L0.out (r12branch.L0.add d (r12branch.L0.F d))).eval := by
  refine r12branch.L0.byRounds (fun (b, i) => b.1.length - i.toNat) ?_
  rintro ⟨b, i⟩ ⟨hb, hl, k, hk, rfl⟩
  have hl : b.1.length ≤ 1000000000 := hl
  have hk : k ≤ b.1.length := hk
  by_cases h : k < b.1.length
  · have hx := hb.1 _ (List.getElem_mem h)
    have n1 : nth (.int .u64) b.1 k = b.1[k] := nth_lt (t := .int .u64) h
    have hd : (b.1.drop k).all isP = (isP b.1[k] && (b.1.drop (k + 1)).all isP) := by rw [List.drop_eq_getElem_cons h, List.all_cons]
    have step : ∀ {R : Type} (kn : AS → Option R) (kx : Exit → AS → Option R), lround Try.prog r12branch.G r12branch.an 0 Try.f57 0 (r12branch.L0.st (b, (k : Int))) kn kx = sel (isP b.1[k]) (kn (r12branch.L0.st (b, ((k + 1 : Nat) : Int)))) (kx (r12branch.L0.ex0 ()).1 (r12branch.L0.ex0 ()).2) := by
      intro R kn kx
      rw [r12branch.L0.step, ilt_true (by omega), inb_true (by omega) (by omega), Int.toNat_natCast, n1, N.aNL (by omega), r6right.run (d := b.1[k]) hx]
      simp only [sel_true, obind_some, r6right.add, r6right.F]
      cases isP b.1[k] <;> rfl
    cases hp : isP b.1[k]
    · right
      refine ⟨r12branch.L0.ex0 (), ?_, fun kn kx => ?_⟩
      · simp only [r12branch.L0.add, r12branch.L0.F, Int.toNat_natCast, hd, hp, Bool.false_and, Bool.false_eq_true, if_false]
        rfl
      · rw [step, hp, sel_false]
    · left
      refine ⟨(b, ((k + 1 : Nat) : Int)), ⟨hb, hl, k + 1, by omega, rfl⟩, by simp only [Int.toNat_natCast]; omega, ?_, fun kn kx => ?_⟩
      · simp only [r12branch.L0.add, r12branch.L0.F, Int.toNat_natCast, hd, hp, Bool.true_and]
      · rw [step, hp, sel_true]
  · right
    obtain rfl : k = b.1.length := by omega
    refine ⟨r12branch.L0.ex1 b, ?_, fun kn kx => ?_⟩
    · simp only [r12branch.L0.add, r12branch.L0.F, Int.toNat_natCast, List.drop_length]
      rfl
    · rw [r12branch.L0.step]
      simp (disch := omega) only [↓N.lt, ↓N.le, ↓N.gt, ↓N.ge, ↓N.eq, ↓N.ne, ↓N.ib, ↓N.ic, ↓N.nn, ↓N.nz, ↓N.dc, ↓N.rm, ↓N.an, ↓N.or, ↓N.no, ↓if_pos, ↓if_neg, ↓sel_true, ↓sel_false, ↓obind_some, if_pos, if_neg, obind_some, N.aNN, N.aNL, N.aLN, N.sNN, N.sNL, N.sLN, N.mNN, N.mNL, N.mLN, N.qNN, N.qNL, N.rNN, N.rNL, N.cN, N.cL, N.tL, Int.toNat_natCast, if_true, if_false, and_self, true_and, and_true]
theorem r12branch.ok : ∀ d, r12branch.Pre d → arun Try.prog r12branch.G r12branch.an 0 Try.f57 (r12branch.st d).1 (r12branch.st d).2 some = some (r12branch.out (r12branch.add d (r12branch.F d))) := by
  rintro ⟨ks, af, dl, sc, u⟩ hb
  have hb : BrU (ks, af, dl, sc, u) := hb
  have h2 : U64 sc := hb.2
  rw [r12branch.eq]
  simp only [r12branch.add, r12branch.F, brOk, htOk]
  by_cases hk : ks.length ≤ 12
  · rw [igt_false (by omega), dec_true hk, r12branch.L0.run (d := ((ks, af, dl, sc, u), 0)) ⟨hb, by show ks.length ≤ 1000000000; omega, 0, by omega, rfl⟩]
    simp only [sel_false, Bool.true_and, obind_some, r12branch.L0.add, r12branch.L0.F, Int.toNat_zero, List.drop_zero]
    by_cases a1 : af < 0
    · rw [ilt_true a1, dec_false (p := 0 ≤ af ∧ af ≤ 1048576) (by omega)]
      cases ks.all isP <;> rfl
    by_cases a2 : af > 1048576
    · rw [ilt_false a1, igt_true a2, dec_false (p := 0 ≤ af ∧ af ≤ 1048576) (by omega)]
      cases ks.all isP <;> rfl
    by_cases a3 : dl < 0
    · rw [ilt_false a1, igt_false a2, ilt_true a3, dec_false (p := 0 ≤ dl ∧ dl ≤ 1048576) (by omega)]
      cases ks.all isP <;> cases (decide (0 ≤ af ∧ af ≤ 1048576)) <;> rfl
    by_cases a4 : dl > 1048576
    · rw [ilt_false a1, igt_false a2, ilt_false a3, igt_true a4, dec_false (p := 0 ≤ dl ∧ dl ≤ 1048576) (by omega)]
      cases ks.all isP <;> cases (decide (0 ≤ af ∧ af ≤ 1048576)) <;> rfl
    rw [ilt_false a1, igt_false a2, ilt_false a3, igt_false a4, dec_true (p := 0 ≤ dl ∧ dl ≤ 1048576) (by omega), dec_true (p := 0 ≤ af ∧ af ≤ 1048576) (by omega)]
    cases hks : ks.all isP
    · simp only [hks, Bool.false_eq_true, if_false]; rfl
    · simp only [hks, if_true]
      show obind (r6right.call sc) _ = _
      rw [r6right.run (d := sc) h2]
      simp only [obind_some, r6right.add, r6right.F]
      by_cases hs : sc = 0
      · rw [dec_true hs]
        show sel (ieq sc 0) _ _ = _
        rw [ieq_true hs]; rfl
      · rw [dec_false hs]
        show sel (ieq sc 0) _ _ = _
        rw [ieq_false hs]; rfl
  · rw [igt_true (by omega), dec_false hk]; rfl

theorem r12branch.inj : ∀ d d', r12branch.st d = r12branch.st d' → d = d' := fun b b' hEq => by
  have e0 : b = b' := d_inj (t := (.pair (.slice (.int .u64)) (.pair (.int .i64) (.pair (.int .i64) (.pair (.int .u64) .unit))))) (congrArg (fun s : List AVal × List Ent => (s.1.getD 0 .undef)) hEq)
  rw [e0]
noncomputable def r12branch.E : Entry := Entry.of [some (.pair (.slice (.int .u64)) (.pair (.int .i64) (.pair (.int .i64) (.pair (.int .u64) .unit))))] r12branch.st r12branch.Pre (fun d => r12branch.add d (r12branch.F d)) r12branch.out
noncomputable def r12branch.call : r12branch.D → Option r12branch.X := fun d => r12branch.E.run (r12branch.st d).1 (r12branch.st d).2
theorem r12branch.run {d : r12branch.D} (h : r12branch.Pre d) : r12branch.call d = some (r12branch.add d (r12branch.F d)) := Entry.of_run r12branch.inj h
theorem r12branch.does : Does Try.prog 57 r12branch.E := Does.of (by kernel_rfl) (show Sound _ r12branch.G from Sound.cons r6right.does (Sound.nil _)) (by kernel_rfl) (by kernel_rfl) (by kernel_rfl) (LOk.fn 1 (by kernel_rfl) (And.intro (LDo.of (by kernel_rfl) r12branch.L0.ok) trivial)) r12branch.ok

/-! ### corsned/corsnedref12.Right -/
abbrev r12right.L0.D := ((List ((List Int) × (Int × (Int × (Int × Unit))))) × Unit) × Int
def r12right.L0.st : r12right.L0.D → AS := fun (l_2, i) => ⟨([.undef, .rptr (.pair (.slice (.pair (.slice (.int .u64)) (.pair (.int .i64) (.pair (.int .i64) (.pair (.int .u64) .unit))))) .unit) l_2, .undef, .d (.int .i64) i] ++ undN 24 []), [], (List.replicate 28 [])⟩
abbrev r12right.L0.Y0 := Unit
abbrev r12right.L0.X0 := Unit
def r12right.L0.ex0 : r12right.L0.X0 → Exit × AS := fun x => (.ret, ⟨([.undef, .undef, .d .bool false] ++ undN 25 []), [], (List.replicate 28 [])⟩)
abbrev r12right.L0.Y1 := Unit
abbrev r12right.L0.X1 := Unit
def r12right.L0.ex1 : r12right.L0.X1 → Exit × AS := fun x => (.exit 0, ⟨(undN 28 []), [], (List.replicate 28 [])⟩)
abbrev r12right.L0.X := (r12right.L0.X0) ⊕ (r12right.L0.X1)
abbrev r12right.L0.Y := (r12right.L0.Y0) ⊕ (r12right.L0.Y1)
def r12right.L0.out : r12right.L0.X → Out (Exit × AS) := fun x => .br x.isLeft (.get x.getLeft? fun a => .ok (r12right.L0.ex0 a)) (.get x.getRight? fun b => .ok (r12right.L0.ex1 b))
def r12right.L0.add : r12right.L0.D → r12right.L0.Y → r12right.L0.X := fun (l_2, i) y => match y with | .inl y => .inl y | .inr z => .inr (z)
abbrev r12right.D := ((List ((List Int) × (Int × (Int × (Int × Unit))))) × Unit)
def r12right.st : r12right.D → List AVal × List Ent := fun l => ([.d (.pair (.slice (.pair (.slice (.int .u64)) (.pair (.int .i64) (.pair (.int .i64) (.pair (.int .u64) .unit))))) .unit) l], [])
abbrev r12right.Y := Bool
abbrev r12right.X := Bool
def r12right.out : r12right.X → GRes := fun x => ⟨.d .bool x, [], []⟩
def r12right.add : r12right.D → r12right.Y → r12right.X := fun l y => y


def r12right.L0.Pre : r12right.L0.D → Prop := fun (l, i) => LkU l ∧ l.1.length ≤ 1000000000 ∧ ∃ k : Nat, k ≤ l.1.length ∧ i = k
def r12right.L0.F : r12right.L0.D → r12right.L0.Y := fun (l, i) => if (l.1.drop i.toNat).all brOk then .inr () else .inl ()
def r12right.Pre : r12right.D → Prop := fun l => LkU l
def r12right.F : r12right.D → r12right.Y := fun l => lkOk l

noncomputable def r12right.G : Gam := gcons 57 anyArgs r12branch.E (gnil)
noncomputable def r12right.L0.E : LEntry := LEntry.of r12right.L0.st r12right.L0.Pre (fun d => r12right.L0.add d (r12right.L0.F d)) r12right.L0.out
noncomputable def r12right.L0.call : r12right.L0.D → Option r12right.L0.X := fun d => r12right.L0.E.run (r12right.L0.st d)
noncomputable def r12right.an : Ann := {
  objs := [],
  loops := fun r => bif Nat.beq r 4 then { keep := [1, 3], sites := [], frz := [], data := [], owns := [] } else { keep := [], sites := [], frz := [], data := [], owns := [] },
  outs := fun r b => bif Nat.beq r 4 then (bif b then { keep := [2], sites := [], frz := [], data := [], owns := [] } else { keep := [], sites := [], frz := [], data := [], owns := [] }) else { keep := [], sites := [], frz := [], data := [], owns := [] },
  sums := fun r => bif Nat.beq r 4 then some r12right.L0.E else none,
  owns := [],
  trim := [],
  res := [] }
theorem r12right.L0.inj : ∀ d d', r12right.L0.st d = r12right.L0.st d' → d = d' := fun (l_2, i) (l_2', i') hEq => by
  have e0 : l_2 = l_2' := rptr_inj (t := (.pair (.slice (.pair (.slice (.int .u64)) (.pair (.int .i64) (.pair (.int .i64) (.pair (.int .u64) .unit))))) .unit)) (congrArg (fun s : AS => (s.slot 1)) hEq)
  have e1 : i = i' := d_inj (t := (.int .i64)) (congrArg (fun s : AS => (s.slot 3)) hEq)
  rw [e0, e1]
theorem r12right.L0.run {d : r12right.L0.D} (h : r12right.L0.Pre d) : r12right.L0.call d = some (r12right.L0.add d (r12right.L0.F d)) := LEntry.of_run r12right.L0.inj h
theorem r12right.L0.byRounds (μ : r12right.L0.D → Nat) (h : ∀ d, r12right.L0.Pre d → (∃ d', r12right.L0.Pre d' ∧ μ d' < μ d ∧ r12right.L0.add d' (r12right.L0.F d') = r12right.L0.add d (r12right.L0.F d) ∧ ∀ {R : Type} (kn : AS → Option R) (kx : Exit → AS → Option R), lround Try.prog r12right.G r12right.an 0 Try.f33 0 (r12right.L0.st d) kn kx = kn (r12right.L0.st d')) ∨ (∃ r, (r12right.L0.out (r12right.L0.add d (r12right.L0.F d))).eval = some r ∧ ∀ {R : Type} (kn : AS → Option R) (kx : Exit → AS → Option R), lround Try.prog r12right.G r12right.an 0 Try.f33 0 (r12right.L0.st d) kn kx = kx r.1 r.2)) : ∀ d, r12right.L0.Pre d → ∃ n, lrun Try.prog r12right.G r12right.an 0 Try.f33 0 n (r12right.L0.st d) (fun e s => some (e, s)) = (r12right.L0.out (r12right.L0.add d (r12right.L0.F d))).eval := lrun_of (F := fun d => r12right.L0.add d (r12right.L0.F d)) (out := r12right.L0.out) μ h
theorem r12right.L0.step {R : Type} (l_2 : ((List ((List Int) × (Int × (Int × (Int × Unit))))) × Unit)) (i : Int) (kn : AS → Option R) (kx : Exit → AS → Option R) : lround Try.prog r12right.G r12right.an 0 Try.f33 0 (r12right.L0.st (l_2, i)) kn kx =
  sel ((ilt i (((List.length l_2.1) : Nat) : Int))) (
   sel (inb i (((List.length l_2.1) : Nat) : Int)) (
   obind (r12branch.call (nth (.pair (.slice (.int .u64)) (.pair (.int .i64) (.pair (.int .i64) (.pair (.int .u64) .unit)))) l_2.1 (Int.toNat i))) fun x1 =>
   sel ((!x1)) (
    kx (r12right.L0.ex0 ()).1 (r12right.L0.ex0 ()).2) (
    kn (r12right.L0.st (l_2, (iadd .i64 i (1 : Int)))))) none) (
   kx (r12right.L0.ex1 ()).1 (r12right.L0.ex1 ()).2) := by kernel_rfl
theorem r12right.eq {R : Type} (l : ((List ((List Int) × (Int × (Int × (Int × Unit))))) × Unit)) (k : GRes → Option R) : arun Try.prog r12right.G r12right.an 0 Try.f33 (r12right.st l).1 (r12right.st l).2 k =
  sel ((ilt (((List.length l.1) : Nat) : Int) (1 : Int))) (
   k (r12right.out false)) (
   sel ((igt (((List.length l.1) : Nat) : Int) (4 : Int))) (
    k (r12right.out false)) (
    obind (r12right.L0.call (l, (0 : Int))) fun x2 =>
    sel (x2.isLeft) (
     obind (x2.getLeft?) fun a3 =>
     k (r12right.out false)) (
     obind (x2.getRight?) fun b4 =>
     k (r12right.out true)))) := by kernel_rfl


theorem r12right.L0.ok : ∀ d, r12right.L0.Pre d → ∃ n, lrun Try.prog r12right.G r12right.an 0 Try.f33 0 n (r12right.L0.st d) (fun e s => some (e, s)) = (r12right.L0.out (r12right.L0.add d (r12right.L0.F d))).eval := by
  refine r12right.L0.byRounds (fun (l, i) => l.1.length - i.toNat) ?_
  rintro ⟨l, i⟩ ⟨hb, hl, k, hk, rfl⟩
  have hl : l.1.length ≤ 1000000000 := hl
  have hk : k ≤ l.1.length := hk
  by_cases h : k < l.1.length
  · have hx := hb _ (List.getElem_mem h)
    have n1 : nth (.pair (.slice (.int .u64)) (.pair (.int .i64) (.pair (.int .i64) (.pair (.int .u64) .unit)))) l.1 k = l.1[k] := nth_lt (t := (.pair (.slice (.int .u64)) (.pair (.int .i64) (.pair (.int .i64) (.pair (.int .u64) .unit))))) h
    have hd : (l.1.drop k).all brOk = (brOk l.1[k] && (l.1.drop (k + 1)).all brOk) := by rw [List.drop_eq_getElem_cons h, List.all_cons]
    have step : ∀ {R : Type} (kn : AS → Option R) (kx : Exit → AS → Option R), lround Try.prog r12right.G r12right.an 0 Try.f33 0 (r12right.L0.st (l, (k : Int))) kn kx = sel (brOk l.1[k]) (kn (r12right.L0.st (l, ((k + 1 : Nat) : Int)))) (kx (r12right.L0.ex0 ()).1 (r12right.L0.ex0 ()).2) := by
      intro R kn kx
      rw [r12right.L0.step, ilt_true (by omega), inb_true (by omega) (by omega), Int.toNat_natCast, n1, N.aNL (by omega), r12branch.run (d := l.1[k]) hx]
      simp only [sel_true, obind_some, r12branch.add, r12branch.F]
      cases brOk l.1[k] <;> rfl
    cases hp : brOk l.1[k]
    · right
      refine ⟨r12right.L0.ex0 (), ?_, fun kn kx => ?_⟩
      · simp only [r12right.L0.add, r12right.L0.F, Int.toNat_natCast, hd, hp, Bool.false_and, Bool.false_eq_true, if_false]
        rfl
      · rw [step, hp, sel_false]
    · left
      refine ⟨(l, ((k + 1 : Nat) : Int)), ⟨hb, hl, k + 1, by omega, rfl⟩, by simp only [Int.toNat_natCast]; omega, ?_, fun kn kx => ?_⟩
      · simp only [r12right.L0.add, r12right.L0.F, Int.toNat_natCast, hd, hp, Bool.true_and]
      · rw [step, hp, sel_true]
  · right
    obtain rfl : k = l.1.length := by omega
    refine ⟨r12right.L0.ex1 (), ?_, fun kn kx => ?_⟩
    · simp only [r12right.L0.add, r12right.L0.F, Int.toNat_natCast, List.drop_length]
      rfl
    · rw [r12right.L0.step]
      simp (disch := omega) only [↓N.lt, ↓N.le, ↓N.gt, ↓N.ge, ↓N.eq, ↓N.ne, ↓N.ib, ↓N.ic, ↓N.nn, ↓N.nz, ↓N.dc, ↓N.rm, ↓N.an, ↓N.or, ↓N.no, ↓if_pos, ↓if_neg, ↓sel_true, ↓sel_false, ↓obind_some, if_pos, if_neg, obind_some, N.aNN, N.aNL, N.aLN, N.sNN, N.sNL, N.sLN, N.mNN, N.mNL, N.mLN, N.qNN, N.qNL, N.rNN, N.rNL, N.cN, N.cL, N.tL, Int.toNat_natCast, if_true, if_false, and_self, true_and, and_true]
theorem r12right.ok : ∀ d, r12right.Pre d → arun Try.prog r12right.G r12right.an 0 Try.f33 (r12right.st d).1 (r12right.st d).2 some = some (r12right.out (r12right.add d (r12right.F d))) := by
  intro l hl
  have hl : LkU l := hl
  rw [r12right.eq]
  simp only [r12right.add, r12right.F, lkOk]
  by_cases h0 : l.1.length < 1
  · rw [ilt_true (by omega), dec_false (p := 0 < l.1.length ∧ l.1.length ≤ 4) (by omega), Bool.and_false]; rfl
  by_cases h4 : l.1.length > 4
  · rw [ilt_false (by omega), igt_true (by omega), dec_false (p := 0 < l.1.length ∧ l.1.length ≤ 4) (by omega), Bool.and_false]; rfl
  rw [ilt_false (by omega), igt_false (by omega), dec_true (p := 0 < l.1.length ∧ l.1.length ≤ 4) (by omega), Bool.and_true, r12right.L0.run (d := (l, 0)) ⟨hl, by show l.1.length ≤ 1000000000; omega, 0, by omega, rfl⟩]
  simp only [sel_false, obind_some, r12right.L0.add, r12right.L0.F, Int.toNat_zero, List.drop_zero]
  cases l.1.all brOk <;> rfl

theorem r12right.inj : ∀ d d', r12right.st d = r12right.st d' → d = d' := fun l l' hEq => by
  have e0 : l = l' := d_inj (t := (.pair (.slice (.pair (.slice (.int .u64)) (.pair (.int .i64) (.pair (.int .i64) (.pair (.int .u64) .unit))))) .unit)) (congrArg (fun s : List AVal × List Ent => (s.1.getD 0 .undef)) hEq)
  rw [e0]
noncomputable def r12right.E : Entry := Entry.of [some (.pair (.slice (.pair (.slice (.int .u64)) (.pair (.int .i64) (.pair (.int .i64) (.pair (.int .u64) .unit))))) .unit)] r12right.st r12right.Pre (fun d => r12right.add d (r12right.F d)) r12right.out
noncomputable def r12right.call : r12right.D → Option r12right.X := fun d => r12right.E.run (r12right.st d).1 (r12right.st d).2
theorem r12right.run {d : r12right.D} (h : r12right.Pre d) : r12right.call d = some (r12right.add d (r12right.F d)) := Entry.of_run r12right.inj h
theorem r12right.does : Does Try.prog 33 r12right.E := Does.of (by kernel_rfl) (show Sound _ r12right.G from Sound.cons r12branch.does (Sound.nil _)) (by kernel_rfl) (by kernel_rfl) (by kernel_rfl) (LOk.fn 1 (by kernel_rfl) (And.intro (LDo.of (by kernel_rfl) r12right.L0.ok) trivial)) r12right.ok

/-! ### corsned/corsnedref12.Open -/
abbrev r12open.L0.D := (Int × ((List (Int × (Int × Unit))) × (Int × Unit))) × (List Int) × Int × ((List Int) × (Int × (Int × (Int × Unit))))
def r12open.L0.st : r12open.L0.D → AS := fun (wv_2, m_2, i, n11) => ⟨(undN 6 ([.rptr (.pair (.int .i64) (.pair (.slice (.pair (.int .u64) (.pair (.int .u64) .unit))) (.pair (.int .u64) .unit))) wv_2, .rptr (.arr 32 (.int .u8)) m_2, .undef, .undef, .undef, .ptr (.new 11 0) 0 [] 0, .d (.int .i64) i] ++ undN 72 [])), [], (nilN 11 ([[.obj 0 false (.d (.pair (.slice (.int .u64)) (.pair (.int .i64) (.pair (.int .i64) (.pair (.int .u64) .unit)))) n11)]] ++ nilN 73 []))⟩
abbrev r12open.L0.Y0 := Unit
abbrev r12open.L0.X0 := Unit
def r12open.L0.ex0 : r12open.L0.X0 → Exit × AS := fun x => (.ret, ⟨(undN 10 ([.d (.int .i64) (7 : Int)] ++ undN 74 [])), [], (List.replicate 85 [])⟩)
abbrev r12open.L0.Y1 := Unit
abbrev r12open.L0.X1 := Unit
def r12open.L0.ex1 : r12open.L0.X1 → Exit × AS := fun x => (.exit 0, ⟨(undN 85 []), [], (List.replicate 85 [])⟩)
abbrev r12open.L0.X := (r12open.L0.X0) ⊕ (r12open.L0.X1)
abbrev r12open.L0.Y := (r12open.L0.Y0) ⊕ (r12open.L0.Y1)
def r12open.L0.out : r12open.L0.X → Out (Exit × AS) := fun x => .br x.isLeft (.get x.getLeft? fun a => .ok (r12open.L0.ex0 a)) (.get x.getRight? fun b => .ok (r12open.L0.ex1 b))
def r12open.L0.add : r12open.L0.D → r12open.L0.Y → r12open.L0.X := fun (wv_2, m_2, i, n11) y => match y with | .inl y => .inl y | .inr z => .inr (z)
abbrev r12open.D := ((List ((List Int) × (Int × (Int × (Int × Unit))))) × Unit) × (Int × ((List (Int × (Int × Unit))) × (Int × Unit))) × (List Int) × Int × Int
def r12open.st : r12open.D → List AVal × List Ent := fun (l, wv, m, height, age) => ([.d (.pair (.slice (.pair (.slice (.int .u64)) (.pair (.int .i64) (.pair (.int .i64) (.pair (.int .u64) .unit))))) .unit) l, .d (.pair (.int .i64) (.pair (.slice (.pair (.int .u64) (.pair (.int .u64) .unit))) (.pair (.int .u64) .unit))) wv, .d (.arr 32 (.int .u8)) m, .d (.int .i64) height, .d (.int .i64) age], [])
abbrev r12open.Y := Int
abbrev r12open.X := Int
def r12open.out : r12open.X → GRes := fun x => ⟨.d (.int .i64) x, [], []⟩
def r12open.add : r12open.D → r12open.Y → r12open.X := fun (l, wv, m, height, age) y => y


def r12open.L0.Pre : r12open.L0.D → Prop := fun (w, m, i, b) => WitU w ∧ Sm m ∧ KeysU b.1 ∧ b.1.length ≤ 1000000000 ∧ w.2.1.length = b.1.length ∧ ∃ k : Nat, k ≤ b.1.length ∧ i = k
def r12open.L0.F : r12open.L0.D → r12open.L0.Y := fun (w, m, i, b) => if verAll m (b.1.drop i.toNat) (w.2.1.drop i.toNat) then .inr () else .inl ()
def r12open.Pre : r12open.D → Prop := fun (l, w, m, h, a) => LkU l ∧ WitU w ∧ Sm m
def r12open.F : r12open.D → r12open.Y := fun (l, w, m, h, a) => openL l w m h a

noncomputable def r12open.G : Gam := gcons 33 anyArgs r12right.E (gcons 34 anyArgs r6base.E (gcons 35 anyArgs r7verify.E (gnil)))
noncomputable def r12open.L0.E : LEntry := LEntry.of r12open.L0.st r12open.L0.Pre (fun d => r12open.L0.add d (r12open.L0.F d)) r12open.L0.out
noncomputable def r12open.L0.call : r12open.L0.D → Option r12open.L0.X := fun d => r12open.L0.E.run (r12open.L0.st d)
noncomputable def r12open.an : Ann := {
  objs := [],
  loops := fun r => bif Nat.beq r 11 then { keep := [6, 7, 11, 12], sites := [11], frz := [], data := [], owns := [] } else { keep := [], sites := [], frz := [], data := [], owns := [] },
  outs := fun r b => bif Nat.beq r 11 then (bif b then { keep := [10], sites := [], frz := [], data := [], owns := [] } else { keep := [], sites := [], frz := [], data := [], owns := [] }) else { keep := [], sites := [], frz := [], data := [], owns := [] },
  sums := fun r => bif Nat.beq r 11 then some r12open.L0.E else none,
  owns := [],
  trim := [],
  res := [] }
theorem r12open.L0.inj : ∀ d d', r12open.L0.st d = r12open.L0.st d' → d = d' := fun (wv_2, m_2, i, n11) (wv_2', m_2', i', n11') hEq => by
  have e0 : wv_2 = wv_2' := rptr_inj (t := (.pair (.int .i64) (.pair (.slice (.pair (.int .u64) (.pair (.int .u64) .unit))) (.pair (.int .u64) .unit)))) (congrArg (fun s : AS => (s.slot 6)) hEq)
  have e1 : m_2 = m_2' := rptr_inj (t := (.arr 32 (.int .u8))) (congrArg (fun s : AS => (s.slot 7)) hEq)
  have e2 : i = i' := d_inj (t := (.int .i64)) (congrArg (fun s : AS => (s.slot 12)) hEq)
  have e3 : n11 = n11' := d_inj (t := (.pair (.slice (.int .u64)) (.pair (.int .i64) (.pair (.int .i64) (.pair (.int .u64) .unit))))) (congrArg (fun s : AS => (entC (s.ent (.new 11 0)))) hEq)
  rw [e0, e1, e2, e3]
theorem r12open.L0.run {d : r12open.L0.D} (h : r12open.L0.Pre d) : r12open.L0.call d = some (r12open.L0.add d (r12open.L0.F d)) := LEntry.of_run r12open.L0.inj h
theorem r12open.L0.byRounds (μ : r12open.L0.D → Nat) (h : ∀ d, r12open.L0.Pre d → (∃ d', r12open.L0.Pre d' ∧ μ d' < μ d ∧ r12open.L0.add d' (r12open.L0.F d') = r12open.L0.add d (r12open.L0.F d) ∧ ∀ {R : Type} (kn : AS → Option R) (kx : Exit → AS → Option R), lround Try.prog r12open.G r12open.an 0 Try.f11 0 (r12open.L0.st d) kn kx = kn (r12open.L0.st d')) ∨ (∃ r, (r12open.L0.out (r12open.L0.add d (r12open.L0.F d))).eval = some r ∧ ∀ {R : Type} (kn : AS → Option R) (kx : Exit → AS → Option R), lround Try.prog r12open.G r12open.an 0 Try.f11 0 (r12open.L0.st d) kn kx = kx r.1 r.2)) : ∀ d, r12open.L0.Pre d → ∃ n, lrun Try.prog r12open.G r12open.an 0 Try.f11 0 n (r12open.L0.st d) (fun e s => some (e, s)) = (r12open.L0.out (r12open.L0.add d (r12open.L0.F d))).eval := lrun_of (F := fun d => r12open.L0.add d (r12open.L0.F d)) (out := r12open.L0.out) μ h
theorem r12open.L0.step {R : Type} (wv_2 : (Int × ((List (Int × (Int × Unit))) × (Int × Unit)))) (m_2 : (List Int)) (i : Int) (n11 : ((List Int) × (Int × (Int × (Int × Unit))))) (kn : AS → Option R) (kx : Exit → AS → Option R) : lround Try.prog r12open.G r12open.an 0 Try.f11 0 (r12open.L0.st (wv_2, m_2, i, n11)) kn kx =
  sel ((ilt i (((List.length n11.1) : Nat) : Int))) (
   sel (inb i (((List.length n11.1) : Nat) : Int)) (
   sel (inb i (((List.length wv_2.2.1) : Nat) : Int)) (
   obind (r7verify.call ((nth (.int .u64) n11.1 (Int.toNat i)), m_2, (nth (.pair (.int .u64) (.pair (.int .u64) .unit)) wv_2.2.1 (Int.toNat i)))) fun x1 =>
   sel ((!x1)) (
    kx (r12open.L0.ex0 ()).1 (r12open.L0.ex0 ()).2) (
    kn (r12open.L0.st (wv_2, m_2, (iadd .i64 i (1 : Int)), n11)))) none) none) (
   kx (r12open.L0.ex1 ()).1 (r12open.L0.ex1 ()).2) := by kernel_rfl
theorem r12open.eq {R : Type} (l : ((List ((List Int) × (Int × (Int × (Int × Unit))))) × Unit)) (wv : (Int × ((List (Int × (Int × Unit))) × (Int × Unit)))) (m : (List Int)) (height : Int) (age : Int) (k : GRes → Option R) : arun Try.prog r12open.G r12open.an 0 Try.f11 (r12open.st (l, wv, m, height, age)).1 (r12open.st (l, wv, m, height, age)).2 k =
  obind (r12right.call l) fun x1 =>
  sel ((!x1)) (
   k (r12open.out (1 : Int))) (
   sel ((ilt wv.1 (0 : Int))) (
    k (r12open.out (1 : Int))) (
    sel ((ige wv.1 (((List.length l.1) : Nat) : Int))) (
     k (r12open.out (1 : Int))) (
     sel (inb wv.1 (((List.length l.1) : Nat) : Int)) (
     sel ((ilt height (nth (.pair (.slice (.int .u64)) (.pair (.int .i64) (.pair (.int .i64) (.pair (.int .u64) .unit)))) l.1 (Int.toNat wv.1)).2.1)) (
      k (r12open.out (11 : Int))) (
      sel ((ilt age (nth (.pair (.slice (.int .u64)) (.pair (.int .i64) (.pair (.int .i64) (.pair (.int .u64) .unit)))) l.1 (Int.toNat wv.1)).2.2.1)) (
       k (r12open.out (11 : Int))) (
       sel ((ine (nth (.pair (.slice (.int .u64)) (.pair (.int .i64) (.pair (.int .i64) (.pair (.int .u64) .unit)))) l.1 (Int.toNat wv.1)).2.2.2.1 (0 : Int))) (
        obind (r6base.call wv.2.2.1) fun x2 =>
        sel ((ine x2 (nth (.pair (.slice (.int .u64)) (.pair (.int .i64) (.pair (.int .i64) (.pair (.int .u64) .unit)))) l.1 (Int.toNat wv.1)).2.2.2.1)) (
         k (r12open.out (23 : Int))) (
         sel ((ine (((List.length wv.2.1) : Nat) : Int) (((List.length (nth (.pair (.slice (.int .u64)) (.pair (.int .i64) (.pair (.int .i64) (.pair (.int .u64) .unit)))) l.1 (Int.toNat wv.1)).1) : Nat) : Int))) (
          k (r12open.out (7 : Int))) (
          obind (r12open.L0.call (wv, m, (0 : Int), (nth (.pair (.slice (.int .u64)) (.pair (.int .i64) (.pair (.int .i64) (.pair (.int .u64) .unit)))) l.1 (Int.toNat wv.1)))) fun x4 =>
          sel (x4.isLeft) (
           obind (x4.getLeft?) fun a5 =>
           k (r12open.out (7 : Int))) (
           obind (x4.getRight?) fun b6 =>
           k (r12open.out (0 : Int)))))) (
        sel ((ine (((List.length wv.2.1) : Nat) : Int) (((List.length (nth (.pair (.slice (.int .u64)) (.pair (.int .i64) (.pair (.int .i64) (.pair (.int .u64) .unit)))) l.1 (Int.toNat wv.1)).1) : Nat) : Int))) (
         k (r12open.out (7 : Int))) (
         obind (r12open.L0.call (wv, m, (0 : Int), (nth (.pair (.slice (.int .u64)) (.pair (.int .i64) (.pair (.int .i64) (.pair (.int .u64) .unit)))) l.1 (Int.toNat wv.1)))) fun x7 =>
         sel (x7.isLeft) (
          obind (x7.getLeft?) fun a8 =>
          k (r12open.out (7 : Int))) (
          obind (x7.getRight?) fun b9 =>
          k (r12open.out (0 : Int)))))))) none))) := by kernel_rfl


theorem r12open.L0.ok : ∀ d, r12open.L0.Pre d → ∃ n, lrun Try.prog r12open.G r12open.an 0 Try.f11 0 n (r12open.L0.st d) (fun e s => some (e, s)) = (r12open.L0.out (r12open.L0.add d (r12open.L0.F d))).eval := by
  refine r12open.L0.byRounds (fun (w, m, i, b) => b.1.length - i.toNat) ?_
  rintro ⟨w, m, i, b⟩ ⟨hw, hm, hl, hb, hs, k, hk, rfl⟩
  have hb : b.1.length ≤ 1000000000 := hb
  have hk : k ≤ b.1.length := hk
  have hs : w.2.1.length = b.1.length := hs
  by_cases h : k < b.1.length
  · have hx := hl _ (List.getElem_mem h)
    have hy := hw.1 _ (List.getElem_mem (by omega : k < w.2.1.length))
    have n1 : nth (.int .u64) b.1 k = b.1[k] := nth_lt (t := .int .u64) h
    have n2 : nth (.pair (.int .u64) (.pair (.int .u64) .unit)) w.2.1 k = w.2.1[k]'(by omega) := nth_lt (t := (.pair (.int .u64) (.pair (.int .u64) .unit))) (by omega)
    have hd := verAll_at m b.1 w.2.1 hs k h
    have step : ∀ {R : Type} (kn : AS → Option R) (kx : Exit → AS → Option R), lround Try.prog r12open.G r12open.an 0 Try.f11 0 (r12open.L0.st (w, m, (k : Int), b)) kn kx = sel (checks b.1[k] m 1 (w.2.1[k]'(by omega))) (kn (r12open.L0.st (w, m, ((k + 1 : Nat) : Int), b))) (kx (r12open.L0.ex0 ()).1 (r12open.L0.ex0 ()).2) := by
      intro R kn kx
      rw [r12open.L0.step, ilt_true (by omega), inb_true (by omega) (by omega), inb_true (by omega) (by omega), Int.toNat_natCast, n1, n2, N.aNL (by omega), r7verify.run (d := (b.1[k], m, w.2.1[k]'(by omega))) ⟨hx, hm, hy⟩]
      simp only [sel_true, obind_some, r7verify.add, r7verify.F]
      cases checks b.1[k] m 1 (w.2.1[k]'(by omega)) <;> rfl
    cases hp : checks b.1[k] m 1 (w.2.1[k]'(by omega))
    · right
      refine ⟨r12open.L0.ex0 (), ?_, fun kn kx => ?_⟩
      · simp only [r12open.L0.add, r12open.L0.F, Int.toNat_natCast, hd, hp, Bool.false_and, Bool.false_eq_true, if_false]
        rfl
      · rw [step, hp, sel_false]
    · left
      refine ⟨(w, m, ((k + 1 : Nat) : Int), b), ⟨hw, hm, hl, hb, hs, k + 1, by omega, rfl⟩, by simp only [Int.toNat_natCast]; omega, ?_, fun kn kx => ?_⟩
      · simp only [r12open.L0.add, r12open.L0.F, Int.toNat_natCast, hd, hp, Bool.true_and]
      · rw [step, hp, sel_true]
  · right
    obtain rfl : k = b.1.length := by omega
    refine ⟨r12open.L0.ex1 (), ?_, fun kn kx => ?_⟩
    · simp only [r12open.L0.add, r12open.L0.F, Int.toNat_natCast, List.drop_length]
      rfl
    · rw [r12open.L0.step]
      simp (disch := omega) only [↓N.lt, ↓N.le, ↓N.gt, ↓N.ge, ↓N.eq, ↓N.ne, ↓N.ib, ↓N.ic, ↓N.nn, ↓N.nz, ↓N.dc, ↓N.rm, ↓N.an, ↓N.or, ↓N.no, ↓if_pos, ↓if_neg, ↓sel_true, ↓sel_false, ↓obind_some, if_pos, if_neg, obind_some, N.aNN, N.aNL, N.aLN, N.sNN, N.sNL, N.sLN, N.mNN, N.mNL, N.mLN, N.qNN, N.qNL, N.rNN, N.rNL, N.cN, N.cL, N.tL, Int.toNat_natCast, if_true, if_false, and_self, true_and, and_true]
theorem r12open.ok : ∀ d, r12open.Pre d → arun Try.prog r12open.G r12open.an 0 Try.f11 (r12open.st d).1 (r12open.st d).2 some = some (r12open.out (r12open.add d (r12open.F d))) := by
  rintro ⟨l, w, m, h, a⟩ ⟨hl, hw, hm⟩
  have hl : LkU l := hl
  have hw : WitU w := hw
  have hm : Sm m := hm
  rw [r12open.eq, r12right.run (d := l) hl]
  simp only [obind_some, r12right.add, r12right.F, r12open.add, r12open.F, openL]
  cases hok : lkOk l
  · rw [if_pos (Or.inl rfl)]; rfl
  by_cases h0 : w.1 < 0
  · rw [ilt_true h0, if_pos (Or.inr (Or.inl h0))]; rfl
  by_cases h1 : w.1 ≥ l.1.length
  · rw [ilt_false h0, ige_true h1, if_pos (Or.inr (Or.inr h1))]; rfl
  rw [ilt_false h0, ige_false h1, inb_true (by omega) (by omega), if_neg (by simp [h0]; omega)]
  have hn : w.1.toNat < l.1.length := by omega
  have n1 : nth (.pair (.slice (.int .u64)) (.pair (.int .i64) (.pair (.int .i64) (.pair (.int .u64) .unit)))) l.1 w.1.toNat = l.1[w.1.toNat] := nth_lt (t := (.pair (.slice (.int .u64)) (.pair (.int .i64) (.pair (.int .i64) (.pair (.int .u64) .unit))))) hn
  rw [n1]
  have hx : BrU l.1[w.1.toNat] := hl _ (List.getElem_mem hn)
  have hkl := lkOk_keys hok (List.getElem_mem hn)
  obtain ⟨⟨ks, af, dl, sc, u⟩, hbk⟩ : ∃ b, l.1[w.1.toNat] = b := ⟨_, rfl⟩
  rw [hbk] at hx hkl ⊢
  have hks : KeysU ks := hx.1
  have hkl : ks.length ≤ 12 := hkl
  simp only [Bool.not_true, sel_false, sel_true]
  by_cases e1 : h < af
  · rw [ilt_true e1, if_pos (Or.inl e1)]; rfl
  by_cases e2 : a < dl
  · rw [ilt_false e1, ilt_true e2, if_pos (Or.inr e2)]; rfl
  rw [ilt_false e1, ilt_false e2, if_neg (by simp [e1, e2]), r6base.run (d := w.2.2.1) hw.2]
  simp only [sel_false, obind_some, r6base.add, r6base.F]
  have last : sel (ine ((w.2.1.length : Nat) : Int) ((ks.length : Nat) : Int)) (some (r12open.out (7 : Int))) (
          obind (r12open.L0.call (w, m, (0 : Int), (ks, af, dl, sc, u))) fun x4 =>
          sel (x4.isLeft) (obind (x4.getLeft?) fun a5 => some (r12open.out (7 : Int))) (obind (x4.getRight?) fun b6 => some (r12open.out (0 : Int)))) = some (r12open.out (if w.2.1.length ≠ ks.length then 7 else if verAll m ks w.2.1 then 0 else 7)) := by
    by_cases e3 : w.2.1.length = ks.length
    · rw [ine_false (by omega), if_neg (by simp [e3]), sel_false, r12open.L0.run (d := (w, m, 0, (ks, af, dl, sc, u))) ⟨hw, hm, hks, by show ks.length ≤ 1000000000; omega, e3, 0, by omega, rfl⟩]
      simp only [obind_some, r12open.L0.add, r12open.L0.F, Int.toNat_zero, List.drop_zero]
      cases verAll m ks w.2.1 <;> rfl
    · rw [ine_true (by omega), if_pos e3]; rfl
  by_cases e4 : sc = 0
  · rw [ine_false e4, if_neg (by simp [e4]), sel_false]
    exact last
  · rw [ine_true e4, sel_true]
    by_cases e5 : baseP w.2.2.1 = sc
    · rw [ine_false e5, if_neg (by simp [e5]), sel_false]
      exact last
    · rw [ine_true e5, if_pos ⟨e4, e5⟩]; rfl

theorem r12open.inj : ∀ d d', r12open.st d = r12open.st d' → d = d' := fun (l, wv, m, height, age) (l', wv', m', height', age') hEq => by
  have e0 : l = l' := d_inj (t := (.pair (.slice (.pair (.slice (.int .u64)) (.pair (.int .i64) (.pair (.int .i64) (.pair (.int .u64) .unit))))) .unit)) (congrArg (fun s : List AVal × List Ent => (s.1.getD 0 .undef)) hEq)
  have e1 : wv = wv' := d_inj (t := (.pair (.int .i64) (.pair (.slice (.pair (.int .u64) (.pair (.int .u64) .unit))) (.pair (.int .u64) .unit)))) (congrArg (fun s : List AVal × List Ent => (s.1.getD 1 .undef)) hEq)
  have e2 : m = m' := d_inj (t := (.arr 32 (.int .u8))) (congrArg (fun s : List AVal × List Ent => (s.1.getD 2 .undef)) hEq)
  have e3 : height = height' := d_inj (t := (.int .i64)) (congrArg (fun s : List AVal × List Ent => (s.1.getD 3 .undef)) hEq)
  have e4 : age = age' := d_inj (t := (.int .i64)) (congrArg (fun s : List AVal × List Ent => (s.1.getD 4 .undef)) hEq)
  rw [e0, e1, e2, e3, e4]
noncomputable def r12open.E : Entry := Entry.of [some (.pair (.slice (.pair (.slice (.int .u64)) (.pair (.int .i64) (.pair (.int .i64) (.pair (.int .u64) .unit))))) .unit), some (.pair (.int .i64) (.pair (.slice (.pair (.int .u64) (.pair (.int .u64) .unit))) (.pair (.int .u64) .unit))), some (.arr 32 (.int .u8)), some (.int .i64), some (.int .i64)] r12open.st r12open.Pre (fun d => r12open.add d (r12open.F d)) r12open.out
noncomputable def r12open.call : r12open.D → Option r12open.X := fun d => r12open.E.run (r12open.st d).1 (r12open.st d).2
theorem r12open.run {d : r12open.D} (h : r12open.Pre d) : r12open.call d = some (r12open.add d (r12open.F d)) := Entry.of_run r12open.inj h
theorem r12open.does : Does Try.prog 11 r12open.E := Does.of (by kernel_rfl) (show Sound _ r12open.G from Sound.cons r12right.does (Sound.cons r6base.does (Sound.cons r7verify.does (Sound.nil _)))) (by kernel_rfl) (by kernel_rfl) (by kernel_rfl) (LOk.fn 1 (by kernel_rfl) (And.intro (LDo.of (by kernel_rfl) r12open.L0.ok) trivial)) r12open.ok

end Go.Ab
