/-
  Texts put together: Rq2, Rr1, Rr2, Rr3, Lw9.
-/
import Derived.Test.YtglpcfdjdabdnaaGreatM6x3
namespace Go.Ab
open Go.Proofs
set_option maxRecDepth 100000
set_option linter.unusedVariables false
set_option linter.unusedSimpArgs false

/-! ### corsned/corsnedref12.branch -/
abbrev r12branch.L0.D := ((List Int) × (Int × (Int × (Int × Unit)))) × Int
def r12branch.L0.st : r12branch.L0.D → AS := fun (b_2, i) => ⟨([.undef, .rptr (.pair (.slice (.int .u64)) (.pair (.int .i64) (.pair (.int .i64) (.pair (.int .u64) .unit)))) b_2, .undef, .d (.int .i64) i] ++ undN 50 []), [], (List.replicate 54 [])⟩
abbrev r12branch.L0.Y0 := Unit
abbrev r12branch.L0.X0 := Unit
def r12branch.L0.ex0 : r12branch.L0.X0 → Exit × AS := fun x => (.ret, ⟨([.undef, .undef, .d .bool false] ++ undN 51 []), [], (List.replicate 54 [])⟩)
abbrev r12branch.L0.Y1 := Unit
abbrev r12branch.L0.X1 := ((List Int) × (Int × (Int × (Int × Unit))))
def r12branch.L0.ex1 : r12branch.L0.X1 → Exit × AS := fun x => (.exit 0, ⟨([.undef, .rptr (.pair (.slice (.int .u64)) (.pair (.int .i64) (.pair (.int .i64) (.pair (.int .u64) .unit)))) x] ++ undN 52 []), [], (List.replicate 54 [])⟩)
abbrev r12branch.L0.X := (r12branch.L0.X0) ⊕ (r12branch.L0.X1)
abbrev r12branch.L0.Y := (r12branch.L0.Y0) ⊕ (r12branch.L0.Y1)
def r12branch.L0.out : r12branch.L0.X → Out (Exit × AS) := fun x => .br x.isLeft (.get x.getLeft? fun a => .ok (r12branch.L0.ex0 a)) (.get x.getRight? fun b => .ok (r12branch.L0.ex1 b))
def r12branch.L0.add : r12branch.L0.D → r12branch.L0.Y → r12branch.L0.X := fun (b_2, i) y => match y with | .inl y => .inl y | .inr z => .inr (b_2)
abbrev r12branch.D := ((List Int) × (Int × (Int × (Int × Unit))))
def r12branch.st : r12branch.D → List AVal × List Ent := fun b => ([.d (.pair (.slice (.int .u64)) (.pair (.int .i64) (.pair (.int .i64) (.pair (.int .u64) .unit)))) b], [])
abbrev r12branch.Y := Bool
abbrev r12branch.X := Bool
def r12branch.out : r12branch.X → GRes := fun x => ⟨.d .bool x, [], []⟩
def r12branch.add : r12branch.D → r12branch.Y → r12branch.X := fun b y => y


def r12branch.L0.Pre : r12branch.L0.D → Prop := fun (b, i) => BrU b ∧ b.1.length ≤ 1000000000 ∧ ∃ k : Nat, k ≤ b.1.length ∧ i = k
def r12branch.L0.F : r12branch.L0.D → r12branch.L0.Y := fun (b, i) => if (b.1.drop i.toNat).all isP then .inr () else .inl ()
def r12branch.Pre : r12branch.D → Prop := fun b => BrU b
def r12branch.F : r12branch.D → r12branch.Y := fun b => brOk b

noncomputable def r12branch.G : Gam := gcons 118 anyArgs r6right.E (gnil)
noncomputable def r12branch.L0.E : LEntry := LEntry.of r12branch.L0.st r12branch.L0.Pre (fun d => r12branch.L0.add d (r12branch.L0.F d)) r12branch.L0.out
noncomputable def r12branch.L0.call : r12branch.L0.D → Option r12branch.L0.X := fun d => r12branch.L0.E.run (r12branch.L0.st d)
noncomputable def r12branch.an : Ann := {
  objs := [],
  loops := fun r => bif Nat.beq r 4 then { keep := [1, 3], sites := [], frz := [], data := [], owns := [] } else { keep := [], sites := [], frz := [], data := [], owns := [] },
  outs := fun r b => bif Nat.beq r 4 then (bif b then { keep := [2], sites := [], frz := [], data := [], owns := [] } else { keep := [1], sites := [], frz := [], data := [], owns := [] }) else { keep := [], sites := [], frz := [], data := [], owns := [] },
  sums := fun r => bif Nat.beq r 4 then some r12branch.L0.E else none,
  owns := [],
  trim := [],
  res := [] }
theorem r12branch.L0.inj : ∀ d d', r12branch.L0.st d = r12branch.L0.st d' → d = d' := fun (b_2, i) (b_2', i') hEq => by
  have e0 : b_2 = b_2' := rptr_inj (t := (.pair (.slice (.int .u64)) (.pair (.int .i64) (.pair (.int .i64) (.pair (.int .u64) .unit))))) (congrArg (fun s : AS => (s.slot 1)) hEq)
  have e1 : i = i' := d_inj (t := (.int .i64)) (congrArg (fun s : AS => (s.slot 3)) hEq)
  rw [e0, e1]
theorem r12branch.L0.run {d : r12branch.L0.D} (h : r12branch.L0.Pre d) : r12branch.L0.call d = some (r12branch.L0.add d (r12branch.L0.F d)) := LEntry.of_run r12branch.L0.inj h
theorem r12branch.L0.byRounds (μ : r12branch.L0.D → Nat) (h : ∀ d, r12branch.L0.Pre d → (∃ d', r12branch.L0.Pre d' ∧ μ d' < μ d ∧ r12branch.L0.add d' (r12branch.L0.F d') = r12branch.L0.add d (r12branch.L0.F d) ∧ ∀ {R : Type} (kn : AS → Option R) (kx : Exit → AS → Option R), lround Tryz.prog r12branch.G r12branch.an 0 Tryz.f65 0 (r12branch.L0.st d) kn kx = kn (r12branch.L0.st d')) ∨ (∃ r, (r12branch.L0.out (r12branch.L0.add d (r12branch.L0.F d))).eval = some r ∧ ∀ {R : Type} (kn : AS → Option R) (kx : Exit → AS → Option R), lround Tryz.prog r12branch.G r12branch.an 0 Tryz.f65 0 (r12branch.L0.st d) kn kx = kx r.1 r.2)) : ∀ d, r12branch.L0.Pre d → ∃ n, lrun Tryz.prog r12branch.G r12branch.an 0 Tryz.f65 0 n (r12branch.L0.st d) (fun e s => some (e, s)) = (r12branch.L0.out (r12branch.L0.add d (r12branch.L0.F d))).eval := lrun_of (F := fun d => r12branch.L0.add d (r12branch.L0.F d)) (out := r12branch.L0.out) μ h
theorem r12branch.L0.step {R : Type} (b_2 : ((List Int) × (Int × (Int × (Int × Unit))))) (i : Int) (kn : AS → Option R) (kx : Exit → AS → Option R) : lround Tryz.prog r12branch.G r12branch.an 0 Tryz.f65 0 (r12branch.L0.st (b_2, i)) kn kx =
  sel ((ilt i (((List.length b_2.1) : Nat) : Int))) (
   sel (inb i (((List.length b_2.1) : Nat) : Int)) (
   obind (r6right.call (nth (.int .u64) b_2.1 (Int.toNat i))) fun x1 =>
   sel ((!x1)) (
    kx (r12branch.L0.ex0 ()).1 (r12branch.L0.ex0 ()).2) (
    kn (r12branch.L0.st (b_2, (iadd .i64 i (1 : Int)))))) none) (
   kx (r12branch.L0.ex1 b_2).1 (r12branch.L0.ex1 b_2).2) := by kernel_rfl
theorem r12branch.eq {R : Type} (b : ((List Int) × (Int × (Int × (Int × Unit))))) (k : GRes → Option R) : arun Tryz.prog r12branch.G r12branch.an 0 Tryz.f65 (r12branch.st b).1 (r12branch.st b).2 k =
  sel ((igt (((List.length b.1) : Nat) : Int) (12 : Int))) (
   k (r12branch.out false)) (
   sel ((ilt b.2.1 (0 : Int))) (
    k (r12branch.out false)) (
    sel ((igt b.2.1 (1048576 : Int))) (
     k (r12branch.out false)) (
     sel ((ilt b.2.2.1 (0 : Int))) (
      k (r12branch.out false)) (
      sel ((igt b.2.2.1 (1048576 : Int))) (
       k (r12branch.out false)) (
       obind (r12branch.L0.call (b, (0 : Int))) fun x2 =>
       sel (x2.isLeft) (
        obind (x2.getLeft?) fun a3 =>
        k (r12branch.out false)) (
        obind (x2.getRight?) fun b4 =>
        obind (r6right.call b4.2.2.2.1) fun x5 =>
        sel ((ieq b4.2.2.2.1 (0 : Int))) (
         k (r12branch.out true)) (
         k (r12branch.out x5)))))))) := by kernel_rfl


theorem r12branch.L0.ok : ∀ d, r12branch.L0.Pre d → ∃ n, lrun Tryz.prog r12branch.G r12branch.an 0 Tryz.f65 0 n (r12branch.L0.st d) (fun e s => some (e, s)) = (r12branch.L0.out (r12branch.L0.add d (r12branch.L0.F d))).eval := by
  refine r12branch.L0.byRounds (fun (b, i) => b.1.length - i.toNat) ?_
  rintro ⟨b, i⟩ ⟨hb, hl, k, hk, rfl⟩
  have hl : b.1.length ≤ 1000000000 := hl
  have hk : k ≤ b.1.length := hk
  by_cases h : k < b.1.length
  · have hx := hb.1 _ (List.getElem_mem h)
    have n1 : nth (.int .u64) b.1 k = b.1[k] := nth_lt (t := .int .u64) h
    have hd : (b.1.drop k).all isP = (isP b.1[k] && (b.1.drop (k + 1)).all isP) := by rw [List.drop_eq_getElem_cons h, List.all_cons]
    have step : ∀ {R : Type} (kn : AS → Option R) (kx : Exit → AS → Option R), lround Tryz.prog r12branch.G r12branch.an 0 Tryz.f65 0 (r12branch.L0.st (b, (k : Int))) kn kx = sel (isP b.1[k]) (kn (r12branch.L0.st (b, ((k + 1 : Nat) : Int)))) (kx (r12branch.L0.ex0 ()).1 (r12branch.L0.ex0 ()).2) := by
      intro R kn kx
      rw [r12branch.L0.step, ilt_true (by omega), inb_true (by omega) (by omega), Int.toNat_natCast, n1, N.aNL (by omega), r6right.run (d := b.1[k]) hx]
      simp only [sel_true, obind_some, r6right.add, r6right.F]
      cases isP b.1[k] <;> rfl
    cases hp : isP b.1[k]
    · right
      refine ⟨r12branch.L0.ex0 (), ?_, fun kn kx => ?_⟩
      · simp only [r12branch.L0.add, r12branch.L0.F, Int.toNat_natCast, hd, hp, Bool.false_and, Bool.false_eq_true, if_false]
        rfl
      · rw [step, hp, sel_false]
    · left
      refine ⟨(b, ((k + 1 : Nat) : Int)), ⟨hb, hl, k + 1, by omega, rfl⟩, by simp only [Int.toNat_natCast]; omega, ?_, fun kn kx => ?_⟩
      · simp only [r12branch.L0.add, r12branch.L0.F, Int.toNat_natCast, hd, hp, Bool.true_and]
      · rw [step, hp, sel_true]
  · right
    obtain rfl : k = b.1.length := by omega
    refine ⟨r12branch.L0.ex1 b, ?_, fun kn kx => ?_⟩
    · simp only [r12branch.L0.add, r12branch.L0.F, Int.toNat_natCast, List.drop_length]
      rfl
    · rw [r12branch.L0.step]
      simp (disch := omega) only [↓N.lt, ↓N.le, ↓N.gt, ↓N.ge, ↓N.eq, ↓N.ne, ↓N.ib, ↓N.ic, ↓N.nn, ↓N.nz, ↓N.dc, ↓N.rm, ↓N.an, ↓N.or, ↓N.no, ↓if_pos, ↓if_neg, ↓sel_true, ↓sel_false, ↓obind_some, if_pos, if_neg, obind_some, N.aNN, N.aNL, N.aLN, N.sNN, N.sNL, N.sLN, N.mNN, N.mNL, N.mLN, N.qNN, N.qNL, N.rNN, N.rNL, N.cN, N.cL, N.tL, Int.toNat_natCast, if_true, if_false, and_self, true_and, and_true]
theorem r12branch.ok : ∀ d, r12branch.Pre d → arun Tryz.prog r12branch.G r12branch.an 0 Tryz.f65 (r12branch.st d).1 (r12branch.st d).2 some = some (r12branch.out (r12branch.add d (r12branch.F d))) := by
  rintro ⟨ks, af, dl, sc, u⟩ hb
  have hb : BrU (ks, af, dl, sc, u) := hb
  have h2 : U64 sc := hb.2
  rw [r12branch.eq]
  simp only [r12branch.add, r12branch.F, brOk, htOk]
  by_cases hk : ks.length ≤ 12
  · rw [igt_false (by omega), dec_true hk, r12branch.L0.run (d := ((ks, af, dl, sc, u), 0)) ⟨hb, by show ks.length ≤ 1000000000; omega, 0, by omega, rfl⟩]
    simp only [sel_false, Bool.true_and, obind_some, r12branch.L0.add, r12branch.L0.F, Int.toNat_zero, List.drop_zero]
    by_cases a1 : af < 0
    · rw [ilt_true a1, dec_false (p := 0 ≤ af ∧ af ≤ 1048576) (by omega)]
      cases ks.all isP <;> rfl
    by_cases a2 : af > 1048576
    · rw [ilt_false a1, igt_true a2, dec_false (p := 0 ≤ af ∧ af ≤ 1048576) (by omega)]
      cases ks.all isP <;> rfl
    by_cases a3 : dl < 0
    · rw [ilt_false a1, igt_false a2, ilt_true a3, dec_false (p := 0 ≤ dl ∧ dl ≤ 1048576) (by omega)]
      cases ks.all isP <;> cases (decide (0 ≤ af ∧ af ≤ 1048576)) <;> rfl
    by_cases a4 : dl > 1048576
    · rw [ilt_false a1, igt_false a2, ilt_false a3, igt_true a4, dec_false (p := 0 ≤ dl ∧ dl ≤ 1048576) (by omega)]
      cases ks.all isP <;> cases (decide (0 ≤ af ∧ af ≤ 1048576)) <;> rfl
    rw [ilt_false a1, igt_false a2, ilt_false a3, igt_false a4, dec_true (p := 0 ≤ dl ∧ dl ≤ 1048576) (by omega), dec_true (p := 0 ≤ af ∧ af ≤ 1048576) (by omega)]
    cases hks : ks.all isP
    · simp only [hks, Bool.false_eq_true, if_false]; rfl
    · simp only [hks, if_true]
      show obind (r6right.call sc) _ = _
      rw [r6right.run (d := sc) h2]
      simp only [obind_some, r6right.add, r6right.F]
      by_cases hs : sc = 0
      · rw [dec_true hs]
        show sel (ieq sc 0) _ _ = _
        rw [ieq_true hs]; rfl
      · rw [dec_false hs]
        show sel (ieq sc 0) _ _ = _
        rw [ieq_false hs]; rfl
  · rw [igt_true (by omega), dec_false hk]; rfl

theorem r12branch.inj : ∀ d d', r12branch.st d = r12branch.st d' → d = d' := fun b b' hEq => by
  have e0 : b = b' := d_inj (t := (.pair (.slice (.int .u64)) (.pair (.int .i64) (.pair (.int .i64) (.pair (.int .u64) .unit))))) (congrArg (fun s : List AVal × List Ent => (s.1.getD 0 .undef)) hEq)
  rw [e0]
noncomputable def r12branch.E : Entry := Entry.of [some (.pair (.slice (.int .u64)) (.pair (.int .i64) (.pair (.int .i64) (.pair (.int .u64) .unit))))] r12branch.st r12branch.Pre (fun d => r12branch.add d (r12branch.F d)) r12branch.out
noncomputable def r12branch.call : r12branch.D → Option r12branch.X := fun d => r12branch.E.run (r12branch.st d).1 (r12branch.st d).2
theorem r12branch.run {d : r12branch.D} (h : r12branch.Pre d) : r12branch.call d = some (r12branch.add d (r12branch.F d)) := Entry.of_run r12branch.inj h
theorem r12branch.does : Does Tryz.prog 65 r12branch.E := Does.of (by kernel_rfl) (show Sound _ r12branch.G from Sound.cons r6right.does (Sound.nil _)) (by kernel_rfl) (by kernel_rfl) (by kernel_rfl) (LOk.fn 1 (by kernel_rfl) (And.intro (LDo.of (by kernel_rfl) r12branch.L0.ok) trivial)) r12branch.ok

/-! ### corsned/corsnedref12.Right -/
abbrev r12right.L0.D := ((List ((List Int) × (Int × (Int × (Int × Unit))))) × Unit) × Int
def r12right.L0.st : r12right.L0.D → AS := fun (l_2, i) => ⟨([.undef, .rptr (.pair (.slice (.pair (.slice (.int .u64)) (.pair (.int .i64) (.pair (.int .i64) (.pair (.int .u64) .unit))))) .unit) l_2, .undef, .d (.int .i64) i] ++ undN 24 []), [], (List.replicate 28 [])⟩
abbrev r12right.L0.Y0 := Unit
abbrev r12right.L0.X0 := Unit
def r12right.L0.ex0 : r12right.L0.X0 → Exit × AS := fun x => (.ret, ⟨([.undef, .undef, .d .bool false] ++ undN 25 []), [], (List.replicate 28 [])⟩)
abbrev r12right.L0.Y1 := Unit
abbrev r12right.L0.X1 := Unit
def r12right.L0.ex1 : r12right.L0.X1 → Exit × AS := fun x => (.exit 0, ⟨(undN 28 []), [], (List.replicate 28 [])⟩)
abbrev r12right.L0.X := (r12right.L0.X0) ⊕ (r12right.L0.X1)
abbrev r12right.L0.Y := (r12right.L0.Y0) ⊕ (r12right.L0.Y1)
def r12right.L0.out : r12right.L0.X → Out (Exit × AS) := fun x => .br x.isLeft (.get x.getLeft? fun a => .ok (r12right.L0.ex0 a)) (.get x.getRight? fun b => .ok (r12right.L0.ex1 b))
def r12right.L0.add : r12right.L0.D → r12right.L0.Y → r12right.L0.X := fun (l_2, i) y => match y with | .inl y => .inl y | .inr z => .inr (z)
abbrev r12right.D := ((List ((List Int) × (Int × (Int × (Int × Unit))))) × Unit)
def r12right.st : r12right.D → List AVal × List Ent := fun l => ([.d (.pair (.slice (.pair (.slice (.int .u64)) (.pair (.int .i64) (.pair (.int .i64) (.pair (.int .u64) .unit))))) .unit) l], [])
abbrev r12right.Y := Bool
abbrev r12right.X := Bool
def r12right.out : r12right.X → GRes := fun x => ⟨.d .bool x, [], []⟩
def r12right.add : r12right.D → r12right.Y → r12right.X := fun l y => y


def r12right.L0.Pre : r12right.L0.D → Prop := fun (l, i) => LkU l ∧ l.1.length ≤ 1000000000 ∧ ∃ k : Nat, k ≤ l.1.length ∧ i = k
def r12right.L0.F : r12right.L0.D → r12right.L0.Y := fun (l, i) => if (l.1.drop i.toNat).all brOk then .inr () else .inl ()
def r12right.Pre : r12right.D → Prop := fun l => LkU l
def r12right.F : r12right.D → r12right.Y := fun l => lkOk l

noncomputable def r12right.G : Gam := gcons 65 anyArgs r12branch.E (gnil)
noncomputable def r12right.L0.E : LEntry := LEntry.of r12right.L0.st r12right.L0.Pre (fun d => r12right.L0.add d (r12right.L0.F d)) r12right.L0.out
noncomputable def r12right.L0.call : r12right.L0.D → Option r12right.L0.X := fun d => r12right.L0.E.run (r12right.L0.st d)
noncomputable def r12right.an : Ann := {
  objs := [],
  loops := fun r => bif Nat.beq r 4 then { keep := [1, 3], sites := [], frz := [], data := [], owns := [] } else { keep := [], sites := [], frz := [], data := [], owns := [] },
  outs := fun r b => bif Nat.beq r 4 then (bif b then { keep := [2], sites := [], frz := [], data := [], owns := [] } else { keep := [], sites := [], frz := [], data := [], owns := [] }) else { keep := [], sites := [], frz := [], data := [], owns := [] },
  sums := fun r => bif Nat.beq r 4 then some r12right.L0.E else none,
  owns := [],
  trim := [],
  res := [] }
theorem r12right.L0.inj : ∀ d d', r12right.L0.st d = r12right.L0.st d' → d = d' := fun (l_2, i) (l_2', i') hEq => by
  have e0 : l_2 = l_2' := rptr_inj (t := (.pair (.slice (.pair (.slice (.int .u64)) (.pair (.int .i64) (.pair (.int .i64) (.pair (.int .u64) .unit))))) .unit)) (congrArg (fun s : AS => (s.slot 1)) hEq)
  have e1 : i = i' := d_inj (t := (.int .i64)) (congrArg (fun s : AS => (s.slot 3)) hEq)
  rw [e0, e1]
theorem r12right.L0.run {d : r12right.L0.D} (h : r12right.L0.Pre d) : r12right.L0.call d = some (r12right.L0.add d (r12right.L0.F d)) := LEntry.of_run r12right.L0.inj h
theorem r12right.L0.byRounds (μ : r12right.L0.D → Nat) (h : ∀ d, r12right.L0.Pre d → (∃ d', r12right.L0.Pre d' ∧ μ d' < μ d ∧ r12right.L0.add d' (r12right.L0.F d') = r12right.L0.add d (r12right.L0.F d) ∧ ∀ {R : Type} (kn : AS → Option R) (kx : Exit → AS → Option R), lround Tryz.prog r12right.G r12right.an 0 Tryz.f14 0 (r12right.L0.st d) kn kx = kn (r12right.L0.st d')) ∨ (∃ r, (r12right.L0.out (r12right.L0.add d (r12right.L0.F d))).eval = some r ∧ ∀ {R : Type} (kn : AS → Option R) (kx : Exit → AS → Option R), lround Tryz.prog r12right.G r12right.an 0 Tryz.f14 0 (r12right.L0.st d) kn kx = kx r.1 r.2)) : ∀ d, r12right.L0.Pre d → ∃ n, lrun Tryz.prog r12right.G r12right.an 0 Tryz.f14 0 n (r12right.L0.st d) (fun e s => some (e, s)) = (r12right.L0.out (r12right.L0.add d (r12right.L0.F d))).eval := lrun_of (F := fun d => r12right.L0.add d (r12right.L0.F d)) (out := r12right.L0.out) μ h
theorem r12right.L0.step {R : Type} (l_2 : ((List ((List Int) × (Int × (Int × (Int × Unit))))) × Unit)) (i : Int) (kn : AS → Option R) (kx : Exit → AS → Option R) : lround Tryz.prog r12right.G r12right.an 0 Tryz.f14 0 (r12right.L0.st (l_2, i)) kn kx =
  sel ((ilt i (((List.length l_2.1) : Nat) : Int))) (
   sel (inb i (((List.length l_2.1) : Nat) : Int)) (
   obind (r12branch.call (nth (.pair (.slice (.int .u64)) (.pair (.int .i64) (.pair (.int .i64) (.pair (.int .u64) .unit)))) l_2.1 (Int.toNat i))) fun x1 =>
   sel ((!x1)) (
    kx (r12right.L0.ex0 ()).1 (r12right.L0.ex0 ()).2) (
    kn (r12right.L0.st (l_2, (iadd .i64 i (1 : Int)))))) none) (
   kx (r12right.L0.ex1 ()).1 (r12right.L0.ex1 ()).2) := by kernel_rfl
theorem r12right.eq {R : Type} (l : ((List ((List Int) × (Int × (Int × (Int × Unit))))) × Unit)) (k : GRes → Option R) : arun Tryz.prog r12right.G r12right.an 0 Tryz.f14 (r12right.st l).1 (r12right.st l).2 k =
  sel ((ilt (((List.length l.1) : Nat) : Int) (1 : Int))) (
   k (r12right.out false)) (
   sel ((igt (((List.length l.1) : Nat) : Int) (4 : Int))) (
    k (r12right.out false)) (
    obind (r12right.L0.call (l, (0 : Int))) fun x2 =>
    sel (x2.isLeft) (
     obind (x2.getLeft?) fun a3 =>
     k (r12right.out false)) (
     obind (x2.getRight?) fun b4 =>
     k (r12right.out true)))) := by kernel_rfl


theorem r12right.L0.ok : ∀ d, r12right.L0.Pre d → ∃ n, lrun Tryz.prog r12right.G r12right.an 0 Tryz.f14 0 n (r12right.L0.st d) (fun e s => some (e, s)) = (r12right.L0.out (r12right.L0.add d (r12right.L0.F d))).eval := by
  refine r12right.L0.byRounds (fun (l, i) => l.1.length - i.toNat) ?_
  rintro ⟨l, i⟩ ⟨hb, hl, k, hk, rfl⟩
  have hl : l.1.length ≤ 1000000000 := hl
  have hk : k ≤ l.1.length := hk
  by_cases h : k < l.1.length
  · have hx := hb _ (List.getElem_mem h)
    have n1 : nth (.pair (.slice (.int .u64)) (.pair (.int .i64) (.pair (.int .i64) (.pair (.int .u64) .unit)))) l.1 k = l.1[k] := nth_lt (t := (.pair (.slice (.int .u64)) (.pair (.int .i64) (.pair (.int .i64) (.pair (.int .u64) .unit))))) h
    have hd : (l.1.drop k).all brOk = (brOk l.1[k] && (l.1.drop (k + 1)).all brOk) := by rw [List.drop_eq_getElem_cons h, List.all_cons]
    have step : ∀ {R : Type} (kn : AS → Option R) (kx : Exit → AS → Option R), lround Tryz.prog r12right.G r12right.an 0 Tryz.f14 0 (r12right.L0.st (l, (k : Int))) kn kx = sel (brOk l.1[k]) (kn (r12right.L0.st (l, ((k + 1 : Nat) : Int)))) (kx (r12right.L0.ex0 ()).1 (r12right.L0.ex0 ()).2) := by
      intro R kn kx
      rw [r12right.L0.step, ilt_true (by omega), inb_true (by omega) (by omega), Int.toNat_natCast, n1, N.aNL (by omega), r12branch.run (d := l.1[k]) hx]
      simp only [sel_true, obind_some, r12branch.add, r12branch.F]
      cases brOk l.1[k] <;> rfl
    cases hp : brOk l.1[k]
    · right
      refine ⟨r12right.L0.ex0 (), ?_, fun kn kx => ?_⟩
      · simp only [r12right.L0.add, r12right.L0.F, Int.toNat_natCast, hd, hp, Bool.false_and, Bool.false_eq_true, if_false]
        rfl
      · rw [step, hp, sel_false]
    · left
      refine ⟨(l, ((k + 1 : Nat) : Int)), ⟨hb, hl, k + 1, by omega, rfl⟩, by simp only [Int.toNat_natCast]; omega, ?_, fun kn kx => ?_⟩
      · simp only [r12right.L0.add, r12right.L0.F, Int.toNat_natCast, hd, hp, Bool.true_and]
      · rw [step, hp, sel_true]
  · right
    obtain rfl : k = l.1.length := by omega
    refine ⟨r12right.L0.ex1 (), ?_, fun kn kx => ?_⟩
    · simp only [r12right.L0.add, r12right.L0.F, Int.toNat_natCast, List.drop_length]
      rfl
    · rw [r12right.L0.step]
      simp (disch := omega) only [↓N.lt, ↓N.le, ↓N.gt, ↓N.ge, ↓N.eq, ↓N.ne, ↓N.ib, ↓N.ic, ↓N.nn, ↓N.nz, ↓N.dc, ↓N.rm, ↓N.an, ↓N.or, ↓N.no, ↓if_pos, ↓if_neg, ↓sel_true, ↓sel_false, ↓obind_some, if_pos, if_neg, obind_some, N.aNN, N.aNL, N.aLN, N.sNN, N.sNL, N.sLN, N.mNN, N.mNL, N.mLN, N.qNN, N.qNL, N.rNN, N.rNL, N.cN, N.cL, N.tL, Int.toNat_natCast, if_true, if_false, and_self, true_and, and_true]
theorem r12right.ok : ∀ d, r12right.Pre d → arun Tryz.prog r12right.G r12right.an 0 Tryz.f14 (r12right.st d).1 (r12right.st d).2 some = some (r12right.out (r12right.add d (r12right.F d))) := by
  intro l hl
  have hl : LkU l := hl
  rw [r12right.eq]
  simp only [r12right.add, r12right.F, lkOk]
  by_cases h0 : l.1.length < 1
  · rw [ilt_true (by omega), dec_false (p := 0 < l.1.length ∧ l.1.length ≤ 4) (by omega), Bool.and_false]; rfl
  by_cases h4 : l.1.length > 4
  · rw [ilt_false (by omega), igt_true (by omega), dec_false (p := 0 < l.1.length ∧ l.1.length ≤ 4) (by omega), Bool.and_false]; rfl
  rw [ilt_false (by omega), igt_false (by omega), dec_true (p := 0 < l.1.length ∧ l.1.length ≤ 4) (by omega), Bool.and_true, r12right.L0.run (d := (l, 0)) ⟨hl, by show l.1.length ≤ 1000000000; omega, 0, by omega, rfl⟩]
  simp only [sel_false, obind_some, r12right.L0.add, r12right.L0.F, Int.toNat_zero, List.drop_zero]
  cases l.1.all brOk <;> rfl

theorem r12right.inj : ∀ d d', r12right.st d = r12right.st d' → d = d' := fun l l' hEq => by
  have e0 : l = l' := d_inj (t := (.pair (.slice (.pair (.slice (.int .u64)) (.pair (.int .i64) (.pair (.int .i64) (.pair (.int .u64) .unit))))) .unit)) (congrArg (fun s : List AVal × List Ent => (s.1.getD 0 .undef)) hEq)
  rw [e0]
noncomputable def r12right.E : Entry := Entry.of [some (.pair (.slice (.pair (.slice (.int .u64)) (.pair (.int .i64) (.pair (.int .i64) (.pair (.int .u64) .unit))))) .unit)] r12right.st r12right.Pre (fun d => r12right.add d (r12right.F d)) r12right.out
noncomputable def r12right.call : r12right.D → Option r12right.X := fun d => r12right.E.run (r12right.st d).1 (r12right.st d).2
theorem r12right.run {d : r12right.D} (h : r12right.Pre d) : r12right.call d = some (r12right.add d (r12right.F d)) := Entry.of_run r12right.inj h
theorem r12right.does : Does Tryz.prog 14 r12right.E := Does.of (by kernel_rfl) (show Sound _ r12right.G from Sound.cons r12branch.does (Sound.nil _)) (by kernel_rfl) (by kernel_rfl) (by kernel_rfl) (LOk.fn 1 (by kernel_rfl) (And.intro (LDo.of (by kernel_rfl) r12right.L0.ok) trivial)) r12right.ok

end Go.Ab
namespace Go.Ab
open Go.Proofs
set_option maxRecDepth 100000
set_option linter.unusedVariables false
set_option linter.unusedSimpArgs false

/-! ### corsned/corsnedref12.Bytes -/
abbrev r12bytes.L0.D := ((List ((List Int) × (Int × (Int × (Int × Unit))))) × Unit) × (List Int) × Int
def r12bytes.L0.st : r12bytes.L0.D → AS := fun (l_2, outv, i) => ⟨([.undef, .rptr (.pair (.slice (.pair (.slice (.int .u64)) (.pair (.int .i64) (.pair (.int .i64) (.pair (.int .u64) .unit))))) .unit) l_2, .undef, .d (.slice (.int .u8)) outv, .d (.int .i64) i] ++ undN 53 []), [], (List.replicate 58 [])⟩
abbrev r12bytes.L0.Y0 := (List Int)  -- out
abbrev r12bytes.L0.X0 := (List Int)
def r12bytes.L0.ex0 : r12bytes.L0.X0 → Exit × AS := fun x => (.exit 0, ⟨([.undef, .undef, .undef, .d (.slice (.int .u8)) x] ++ undN 54 []), [], (List.replicate 58 [])⟩)
abbrev r12bytes.L0.X := r12bytes.L0.X0
abbrev r12bytes.L0.Y := r12bytes.L0.Y0
def r12bytes.L0.out : r12bytes.L0.X → Out (Exit × AS) := fun x => .ok (r12bytes.L0.ex0 x)
def r12bytes.L0.add : r12bytes.L0.D → r12bytes.L0.Y → r12bytes.L0.X := fun (l_2, outv, i) y => y
abbrev r12bytes.L1.D := ((List ((List Int) × (Int × (Int × (Int × Unit))))) × Unit) × (List Int) × Int × Int × ((List Int) × (Int × (Int × (Int × Unit))))
def r12bytes.L1.st : r12bytes.L1.D → AS := fun (l_3, outv_2, i_2, kv, n5) => ⟨([.undef, .rptr (.pair (.slice (.pair (.slice (.int .u64)) (.pair (.int .i64) (.pair (.int .i64) (.pair (.int .u64) .unit))))) .unit) l_3, .undef, .d (.slice (.int .u8)) outv_2, .d (.int .i64) i_2, .ptr (.new 5 0) 0 [] 0, .d (.int .i64) kv] ++ undN 51 []), [], (nilN 5 ([[.obj 0 false (.d (.pair (.slice (.int .u64)) (.pair (.int .i64) (.pair (.int .i64) (.pair (.int .u64) .unit)))) n5)]] ++ nilN 52 []))⟩
abbrev r12bytes.L1.Y0 := (List Int)  -- out
abbrev r12bytes.L1.X0 := (((List ((List Int) × (Int × (Int × (Int × Unit))))) × Unit) × Int × ((List Int) × (Int × (Int × (Int × Unit))))) × ((List Int))
def r12bytes.L1.ex0 : r12bytes.L1.X0 → Exit × AS := fun x => (.exit 2, ⟨([.undef, .rptr (.pair (.slice (.pair (.slice (.int .u64)) (.pair (.int .i64) (.pair (.int .i64) (.pair (.int .u64) .unit))))) .unit) x.1.1, .undef, .d (.slice (.int .u8)) x.2, .d (.int .i64) x.1.2.1, .ptr (.new 5 0) 0 [] 0] ++ undN 52 []), [], (nilN 5 ([[.obj 0 false (.d (.pair (.slice (.int .u64)) (.pair (.int .i64) (.pair (.int .i64) (.pair (.int .u64) .unit)))) x.1.2.2)]] ++ nilN 52 []))⟩)
abbrev r12bytes.L1.X := r12bytes.L1.X0
abbrev r12bytes.L1.Y := r12bytes.L1.Y0
def r12bytes.L1.out : r12bytes.L1.X → Out (Exit × AS) := fun x => .ok (r12bytes.L1.ex0 x)
def r12bytes.L1.add : r12bytes.L1.D → r12bytes.L1.Y → r12bytes.L1.X := fun (l_3, outv_2, i_2, kv, n5) y => ((l_3, i_2, n5), y)
abbrev r12bytes.D := ((List ((List Int) × (Int × (Int × (Int × Unit))))) × Unit)
def r12bytes.st : r12bytes.D → List AVal × List Ent := fun l => ([.d (.pair (.slice (.pair (.slice (.int .u64)) (.pair (.int .i64) (.pair (.int .i64) (.pair (.int .u64) .unit))))) .unit) l], [])
abbrev r12bytes.Y := (List Int)
abbrev r12bytes.X := (List Int)
def r12bytes.out : r12bytes.X → GRes := fun x => ⟨.d (.slice (.int .u8)) x, [], []⟩
def r12bytes.add : r12bytes.D → r12bytes.Y → r12bytes.X := fun l y => y


def r12bytes.L1.Pre : r12bytes.L1.D → Prop := fun (l, o, i, j, b) => b.1.length ≤ 12 ∧ ∃ k : Nat, k ≤ b.1.length ∧ j = k ∧ o.length + 8 * b.1.length ≤ 80000000 + 8 * k
def r12bytes.L1.F : r12bytes.L1.D → r12bytes.L1.Y := fun (l, o, i, j, b) => keysB o (b.1.drop j.toNat)
def r12bytes.L0.Pre : r12bytes.L0.D → Prop := fun (l, o, i) => (∀ b ∈ l.1, BrI b) ∧ l.1.length ≤ 4 ∧ ∃ k : Nat, k ≤ l.1.length ∧ i = k ∧ o.length ≤ 1000 + 200 * k
def r12bytes.L0.F : r12bytes.L0.D → r12bytes.L0.Y := fun (l, o, i) => (l.1.drop i.toNat).foldl brB o
def r12bytes.Pre : r12bytes.D → Prop := fun l => LkU l
def r12bytes.F : r12bytes.D → r12bytes.Y := fun l => lkB l

noncomputable def r12bytes.G : Gam := gcons 14 anyArgs r12right.E (gcons 71 anyArgs r8put.E (gcons 72 anyArgs r8putu.E (gnil)))
noncomputable def r12bytes.L0.E : LEntry := LEntry.of r12bytes.L0.st r12bytes.L0.Pre (fun d => r12bytes.L0.add d (r12bytes.L0.F d)) r12bytes.L0.out
noncomputable def r12bytes.L0.call : r12bytes.L0.D → Option r12bytes.L0.X := fun d => r12bytes.L0.E.run (r12bytes.L0.st d)
noncomputable def r12bytes.L1.E : LEntry := LEntry.of r12bytes.L1.st r12bytes.L1.Pre (fun d => r12bytes.L1.add d (r12bytes.L1.F d)) r12bytes.L1.out
noncomputable def r12bytes.L1.call : r12bytes.L1.D → Option r12bytes.L1.X := fun d => r12bytes.L1.E.run (r12bytes.L1.st d)
noncomputable def r12bytes.an : Ann := {
  objs := [],
  loops := fun r => bif Nat.beq r 5 then { keep := [1, 3, 4], sites := [], frz := [], data := [], owns := [] } else bif Nat.beq r 10 then { keep := [1, 3, 4, 5, 6], sites := [5], frz := [], data := [], owns := [] } else { keep := [], sites := [], frz := [], data := [], owns := [] },
  outs := fun r b => bif Nat.beq r 5 then (bif b then { keep := [2], sites := [], frz := [], data := [], owns := [] } else { keep := [3], sites := [], frz := [], data := [], owns := [] }) else bif Nat.beq r 10 then (bif b then { keep := [2], sites := [], frz := [], data := [], owns := [] } else { keep := [1, 3, 4, 5], sites := [5], frz := [], data := [], owns := [] }) else { keep := [], sites := [], frz := [], data := [], owns := [] },
  sums := fun r => bif Nat.beq r 5 then some r12bytes.L0.E else bif Nat.beq r 10 then some r12bytes.L1.E else none,
  owns := [],
  trim := [],
  res := [some (.slice (.int .u8))] }
theorem r12bytes.L0.inj : ∀ d d', r12bytes.L0.st d = r12bytes.L0.st d' → d = d' := fun (l_2, outv, i) (l_2', outv', i') hEq => by
  have e0 : l_2 = l_2' := rptr_inj (t := (.pair (.slice (.pair (.slice (.int .u64)) (.pair (.int .i64) (.pair (.int .i64) (.pair (.int .u64) .unit))))) .unit)) (congrArg (fun s : AS => (s.slot 1)) hEq)
  have e1 : outv = outv' := d_inj (t := (.slice (.int .u8))) (congrArg (fun s : AS => (s.slot 3)) hEq)
  have e2 : i = i' := d_inj (t := (.int .i64)) (congrArg (fun s : AS => (s.slot 4)) hEq)
  rw [e0, e1, e2]
theorem r12bytes.L0.run {d : r12bytes.L0.D} (h : r12bytes.L0.Pre d) : r12bytes.L0.call d = some (r12bytes.L0.add d (r12bytes.L0.F d)) := LEntry.of_run r12bytes.L0.inj h
theorem r12bytes.L0.byRounds (μ : r12bytes.L0.D → Nat) (h : ∀ d, r12bytes.L0.Pre d → (∃ d', r12bytes.L0.Pre d' ∧ μ d' < μ d ∧ r12bytes.L0.add d' (r12bytes.L0.F d') = r12bytes.L0.add d (r12bytes.L0.F d) ∧ ∀ {R : Type} (kn : AS → Option R) (kx : Exit → AS → Option R), lround Tryz.prog r12bytes.G r12bytes.an 0 Tryz.f18 0 (r12bytes.L0.st d) kn kx = kn (r12bytes.L0.st d')) ∨ (∀ {R : Type} (kn : AS → Option R) (kx : Exit → AS → Option R), lround Tryz.prog r12bytes.G r12bytes.an 0 Tryz.f18 0 (r12bytes.L0.st d) kn kx = kx (r12bytes.L0.ex0 (r12bytes.L0.add d (r12bytes.L0.F d))).1 (r12bytes.L0.ex0 (r12bytes.L0.add d (r12bytes.L0.F d))).2)) : ∀ d, r12bytes.L0.Pre d → ∃ n, lrun Tryz.prog r12bytes.G r12bytes.an 0 Tryz.f18 0 n (r12bytes.L0.st d) (fun e s => some (e, s)) = (r12bytes.L0.out (r12bytes.L0.add d (r12bytes.L0.F d))).eval := lrun_one (F := fun d => r12bytes.L0.add d (r12bytes.L0.F d)) μ h
theorem r12bytes.L0.step {R : Type} (l_2 : ((List ((List Int) × (Int × (Int × (Int × Unit))))) × Unit)) (outv : (List Int)) (i : Int) (kn : AS → Option R) (kx : Exit → AS → Option R) : lround Tryz.prog r12bytes.G r12bytes.an 0 Tryz.f18 0 (r12bytes.L0.st (l_2, outv, i)) kn kx =
  sel ((ilt i (((List.length l_2.1) : Nat) : Int))) (
   sel (inb i (((List.length l_2.1) : Nat) : Int)) (
   obind (r8put.call (outv, (((List.length (nth (.pair (.slice (.int .u64)) (.pair (.int .i64) (.pair (.int .i64) (.pair (.int .u64) .unit)))) l_2.1 (Int.toNat i)).1) : Nat) : Int))) fun x1 =>
   obind (r12bytes.L1.call (l_2, x1, i, (0 : Int), (nth (.pair (.slice (.int .u64)) (.pair (.int .i64) (.pair (.int .i64) (.pair (.int .u64) .unit)))) l_2.1 (Int.toNat i)))) fun x2 =>
   obind (r8put.call (x2.2, x2.1.2.2.2.1)) fun x3 =>
   obind (r8put.call (x3, x2.1.2.2.2.2.1)) fun x4 =>
   obind (r8putu.call (x4, x2.1.2.2.2.2.2.1)) fun x5 =>
   kn (r12bytes.L0.st (x2.1.1, x5, (iadd .i64 x2.1.2.1 (1 : Int))))) none) (
   kx (r12bytes.L0.ex0 outv).1 (r12bytes.L0.ex0 outv).2) := by kernel_rfl
theorem r12bytes.L1.inj : ∀ d d', r12bytes.L1.st d = r12bytes.L1.st d' → d = d' := fun (l_3, outv_2, i_2, kv, n5) (l_3', outv_2', i_2', kv', n5') hEq => by
  have e0 : l_3 = l_3' := rptr_inj (t := (.pair (.slice (.pair (.slice (.int .u64)) (.pair (.int .i64) (.pair (.int .i64) (.pair (.int .u64) .unit))))) .unit)) (congrArg (fun s : AS => (s.slot 1)) hEq)
  have e1 : outv_2 = outv_2' := d_inj (t := (.slice (.int .u8))) (congrArg (fun s : AS => (s.slot 3)) hEq)
  have e2 : i_2 = i_2' := d_inj (t := (.int .i64)) (congrArg (fun s : AS => (s.slot 4)) hEq)
  have e3 : kv = kv' := d_inj (t := (.int .i64)) (congrArg (fun s : AS => (s.slot 6)) hEq)
  have e4 : n5 = n5' := d_inj (t := (.pair (.slice (.int .u64)) (.pair (.int .i64) (.pair (.int .i64) (.pair (.int .u64) .unit))))) (congrArg (fun s : AS => (entC (s.ent (.new 5 0)))) hEq)
  rw [e0, e1, e2, e3, e4]
theorem r12bytes.L1.run {d : r12bytes.L1.D} (h : r12bytes.L1.Pre d) : r12bytes.L1.call d = some (r12bytes.L1.add d (r12bytes.L1.F d)) := LEntry.of_run r12bytes.L1.inj h
theorem r12bytes.L1.byRounds (μ : r12bytes.L1.D → Nat) (h : ∀ d, r12bytes.L1.Pre d → (∃ d', r12bytes.L1.Pre d' ∧ μ d' < μ d ∧ r12bytes.L1.add d' (r12bytes.L1.F d') = r12bytes.L1.add d (r12bytes.L1.F d) ∧ ∀ {R : Type} (kn : AS → Option R) (kx : Exit → AS → Option R), lround Tryz.prog r12bytes.G r12bytes.an 0 Tryz.f18 1 (r12bytes.L1.st d) kn kx = kn (r12bytes.L1.st d')) ∨ (∀ {R : Type} (kn : AS → Option R) (kx : Exit → AS → Option R), lround Tryz.prog r12bytes.G r12bytes.an 0 Tryz.f18 1 (r12bytes.L1.st d) kn kx = kx (r12bytes.L1.ex0 (r12bytes.L1.add d (r12bytes.L1.F d))).1 (r12bytes.L1.ex0 (r12bytes.L1.add d (r12bytes.L1.F d))).2)) : ∀ d, r12bytes.L1.Pre d → ∃ n, lrun Tryz.prog r12bytes.G r12bytes.an 0 Tryz.f18 1 n (r12bytes.L1.st d) (fun e s => some (e, s)) = (r12bytes.L1.out (r12bytes.L1.add d (r12bytes.L1.F d))).eval := lrun_one (F := fun d => r12bytes.L1.add d (r12bytes.L1.F d)) μ h
theorem r12bytes.L1.step {R : Type} (l_3 : ((List ((List Int) × (Int × (Int × (Int × Unit))))) × Unit)) (outv_2 : (List Int)) (i_2 : Int) (kv : Int) (n5 : ((List Int) × (Int × (Int × (Int × Unit))))) (kn : AS → Option R) (kx : Exit → AS → Option R) : lround Tryz.prog r12bytes.G r12bytes.an 0 Tryz.f18 1 (r12bytes.L1.st (l_3, outv_2, i_2, kv, n5)) kn kx =
  sel ((ilt kv (((List.length n5.1) : Nat) : Int))) (
   sel (inb kv (((List.length n5.1) : Nat) : Int)) (
   obind (r8putu.call (outv_2, (nth (.int .u64) n5.1 (Int.toNat kv)))) fun x1 =>
   kn (r12bytes.L1.st (l_3, x1, i_2, (iadd .i64 kv (1 : Int)), n5))) none) (
   kx (r12bytes.L1.ex0 ((l_3, i_2, n5), outv_2)).1 (r12bytes.L1.ex0 ((l_3, i_2, n5), outv_2)).2) := by kernel_rfl
theorem r12bytes.eq {R : Type} (l : ((List ((List Int) × (Int × (Int × (Int × Unit))))) × Unit)) (k : GRes → Option R) : arun Tryz.prog r12bytes.G r12bytes.an 0 Tryz.f18 (r12bytes.st l).1 (r12bytes.st l).2 k =
  obind (r12right.call l) fun x1 =>
  sel ((!x1)) (
   k (r12bytes.out ([] : List Int))) (
   obind (r8put.call (([] : List Int), (((List.length l.1) : Nat) : Int))) fun x2 =>
   obind (r12bytes.L0.call (l, x2, (0 : Int))) fun x9 =>
   k (r12bytes.out x9)) := by kernel_rfl


theorem r12bytes.L1.ok : ∀ d, r12bytes.L1.Pre d → ∃ n, lrun Tryz.prog r12bytes.G r12bytes.an 0 Tryz.f18 1 n (r12bytes.L1.st d) (fun e s => some (e, s)) = (r12bytes.L1.out (r12bytes.L1.add d (r12bytes.L1.F d))).eval := by
  refine r12bytes.L1.byRounds (fun (l, o, i, j, b) => b.1.length - j.toNat) ?_
  rintro ⟨l, o, i, j, b⟩ ⟨h12, k, hk, rfl, hl⟩
  have h12 : b.1.length ≤ 12 := h12
  have hk : k ≤ b.1.length := hk
  have hl : o.length + 8 * b.1.length ≤ 80000000 + 8 * k := hl
  by_cases h : k < b.1.length
  · left
    have n1 : nth (.int .u64) b.1 k = b.1[k] := nth_lt (t := .int .u64) h
    refine ⟨(l, o ++ be8 b.1[k], i, ((k + 1 : Nat) : Int), b), ⟨h12, k + 1, by omega, rfl, by rw [List.length_append, be8_length]; omega⟩, by simp only [Int.toNat_natCast]; omega, ?_, fun kn kx => ?_⟩
    · simp only [r12bytes.L1.add, r12bytes.L1.F, Int.toNat_natCast]
      rw [keysB_drop _ _ _ h]
    · rw [r12bytes.L1.step, ilt_true (by omega), inb_true (by omega) (by omega), Int.toNat_natCast, n1, r8putu.run (d := (o, b.1[k])) (by show o.length ≤ 90000000; omega)]
      simp only [sel_true, obind_some, r8putu.add, r8putu.F]
      rw [N.aNL (by omega)]
  · right
    obtain rfl : k = b.1.length := by omega
    intro R kn kx
    rw [r12bytes.L1.step, ilt_false (by omega), sel_false]
    simp only [r12bytes.L1.add, r12bytes.L1.F, Int.toNat_natCast, List.drop_length]
    rfl
theorem r12bytes.L0.ok : ∀ d, r12bytes.L0.Pre d → ∃ n, lrun Tryz.prog r12bytes.G r12bytes.an 0 Tryz.f18 0 n (r12bytes.L0.st d) (fun e s => some (e, s)) = (r12bytes.L0.out (r12bytes.L0.add d (r12bytes.L0.F d))).eval := by
  refine r12bytes.L0.byRounds (fun (l, o, i) => l.1.length - i.toNat) ?_
  rintro ⟨l, o, i⟩ ⟨hb, h4, k, hk, rfl, hl⟩
  have h4 : l.1.length ≤ 4 := h4
  have hk : k ≤ l.1.length := hk
  have hl : o.length ≤ 1000 + 200 * k := hl
  by_cases h : k < l.1.length
  · left
    have hx := hb _ (List.getElem_mem h)
    have n1 : nth (.pair (.slice (.int .u64)) (.pair (.int .i64) (.pair (.int .i64) (.pair (.int .u64) .unit)))) l.1 k = l.1[k] := nth_lt (t := (.pair (.slice (.int .u64)) (.pair (.int .i64) (.pair (.int .i64) (.pair (.int .u64) .unit))))) h
    have e0 := brB_len o l.1[k] hx.1
    refine ⟨(l, brB o l.1[k], ((k + 1 : Nat) : Int)), ⟨hb, h4, k + 1, by omega, rfl, by omega⟩, by simp only [Int.toNat_natCast]; omega, ?_, fun kn kx => ?_⟩
    · simp only [r12bytes.L0.add, r12bytes.L0.F, Int.toNat_natCast]
      rw [List.drop_eq_getElem_cons h]
      rfl
    · rw [r12bytes.L0.step, ilt_true (by omega), inb_true (by omega) (by omega), Int.toNat_natCast, n1]
      obtain ⟨⟨ks, af, dl, sc, u⟩, hbk⟩ : ∃ b, l.1[k] = b := ⟨_, rfl⟩
      rw [hbk] at hx e0 ⊢
      obtain ⟨h12, ha, hd⟩ := hx
      have h12 : ks.length ≤ 12 := h12
      have ha : af ≤ 9223372036854775807 := ha
      have hd : dl ≤ 9223372036854775807 := hd
      have l1 := putN_len o ks.length
      have l2 := keysB_len ks (putN o ks.length)
      have l3 := putN_len (keysB (putN o ks.length) ks) af
      have l4 := putN_len (putN (keysB (putN o ks.length) ks) af) dl
      simp only [sel_true]
      rw [r8put.run (d := (o, (ks.length : Int))) ⟨by show o.length ≤ 90000000; omega, by show (ks.length : Int) ≤ 9223372036854775807; omega⟩]
      simp only [obind_some, r8put.add, r8put.F]
      rw [r12bytes.L1.run (d := (l, putN o ks.length, (k : Int), 0, (ks, af, dl, sc, u))) ⟨h12, 0, Nat.zero_le _, rfl, by show (putN o ks.length).length + 8 * ks.length ≤ _; omega⟩]
      simp only [obind_some, r12bytes.L1.add, r12bytes.L1.F, Int.toNat_zero, List.drop_zero]
      rw [r8put.run (d := (keysB (putN o ks.length) ks, af)) ⟨by show (keysB (putN o ks.length) ks).length ≤ 90000000; omega, ha⟩]
      simp only [obind_some, r8put.add, r8put.F]
      rw [r8put.run (d := (putN (keysB (putN o ks.length) ks) af, dl)) ⟨by show (putN (keysB (putN o ks.length) ks) af).length ≤ 90000000; omega, hd⟩]
      simp only [obind_some, r8put.add, r8put.F]
      rw [r8putu.run (d := (putN (putN (keysB (putN o ks.length) ks) af) dl, sc)) (by show (putN (putN (keysB (putN o ks.length) ks) af) dl).length ≤ 90000000; omega)]
      simp only [obind_some, r8putu.add, r8putu.F]
      rw [N.aNL (by omega)]
      rfl
  · right
    obtain rfl : k = l.1.length := by omega
    intro R kn kx
    rw [r12bytes.L0.step, ilt_false (by omega), sel_false]
    simp only [r12bytes.L0.add, r12bytes.L0.F, Int.toNat_natCast, List.drop_length]
    rfl
theorem r12bytes.ok : ∀ d, r12bytes.Pre d → arun Tryz.prog r12bytes.G r12bytes.an 0 Tryz.f18 (r12bytes.st d).1 (r12bytes.st d).2 some = some (r12bytes.out (r12bytes.add d (r12bytes.F d))) := by
  intro l hl
  have hl : LkU l := hl
  rw [r12bytes.eq, r12right.run (d := l) hl]
  simp only [obind_some, r12right.add, r12right.F, r12bytes.add, r12bytes.F, lkB]
  cases hok : lkOk l
  · rfl
  · obtain ⟨h1, h2, h3⟩ := lkOk_i hok
    have l1 := putN_len [] l.1.length
    have l0 : ([] : List Int).length = 0 := rfl
    simp only [Bool.not_true, sel_false, if_true]
    rw [r8put.run (d := ([], (l.1.length : Int))) ⟨by show ([] : List Int).length ≤ 90000000; omega, by show (l.1.length : Int) ≤ 9223372036854775807; omega⟩]
    simp only [obind_some, r8put.add, r8put.F]
    rw [r12bytes.L0.run (d := (l, putN [] l.1.length, 0)) ⟨h1, h3, 0, Nat.zero_le _, rfl, by show (putN [] l.1.length).length ≤ _; omega⟩]
    rfl

theorem r12bytes.inj : ∀ d d', r12bytes.st d = r12bytes.st d' → d = d' := fun l l' hEq => by
  have e0 : l = l' := d_inj (t := (.pair (.slice (.pair (.slice (.int .u64)) (.pair (.int .i64) (.pair (.int .i64) (.pair (.int .u64) .unit))))) .unit)) (congrArg (fun s : List AVal × List Ent => (s.1.getD 0 .undef)) hEq)
  rw [e0]
noncomputable def r12bytes.E : Entry := Entry.of [some (.pair (.slice (.pair (.slice (.int .u64)) (.pair (.int .i64) (.pair (.int .i64) (.pair (.int .u64) .unit))))) .unit)] r12bytes.st r12bytes.Pre (fun d => r12bytes.add d (r12bytes.F d)) r12bytes.out
noncomputable def r12bytes.call : r12bytes.D → Option r12bytes.X := fun d => r12bytes.E.run (r12bytes.st d).1 (r12bytes.st d).2
theorem r12bytes.run {d : r12bytes.D} (h : r12bytes.Pre d) : r12bytes.call d = some (r12bytes.add d (r12bytes.F d)) := Entry.of_run r12bytes.inj h
theorem r12bytes.does : Does Tryz.prog 18 r12bytes.E := Does.of (by kernel_rfl) (show Sound _ r12bytes.G from Sound.cons r12right.does (Sound.cons r8put.does (Sound.cons r8putu.does (Sound.nil _)))) (by kernel_rfl) (by kernel_rfl) (by kernel_rfl) (LOk.fn 2 (by kernel_rfl) (And.intro (LDo.of (by kernel_rfl) r12bytes.L0.ok) (And.intro (LDo.of (by kernel_rfl) r12bytes.L1.ok) trivial))) r12bytes.ok

/-! ### corsned/corsnedref12.Sum -/
abbrev r12sum.D := ((List ((List Int) × (Int × (Int × (Int × Unit))))) × Unit)
def r12sum.st : r12sum.D → List AVal × List Ent := fun l => ([.d (.pair (.slice (.pair (.slice (.int .u64)) (.pair (.int .i64) (.pair (.int .i64) (.pair (.int .u64) .unit))))) .unit) l], [])
abbrev r12sum.Y := (List Int)
abbrev r12sum.X := (List Int)
def r12sum.out : r12sum.X → GRes := fun x => ⟨.d (.arr 32 (.int .u8)) x, [], []⟩
def r12sum.add : r12sum.D → r12sum.Y → r12sum.X := fun l y => y


def r12sum.Pre : r12sum.D → Prop := fun l => LkU l
def r12sum.F : r12sum.D → r12sum.Y := fun l => lkS l

noncomputable def r12sum.G : Gam := gcons 14 anyArgs r12right.E (gcons 18 anyArgs r12bytes.E (gcons 73 anyArgs rtag.E (gnil)))
noncomputable def r12sum.an : Ann := {
  objs := [],
  loops := fun r => { keep := [], sites := [], frz := [], data := [], owns := [] },
  outs := fun r b => { keep := [], sites := [], frz := [], data := [], owns := [] },
  sums := fun r => none,
  owns := [],
  trim := [],
  res := [] }
theorem r12sum.eq {R : Type} (l : ((List ((List Int) × (Int × (Int × (Int × Unit))))) × Unit)) (k : GRes → Option R) : arun Tryz.prog r12sum.G r12sum.an 0 Tryz.f20 (r12sum.st l).1 (r12sum.st l).2 k =
  obind (r12right.call l) fun x1 =>
  sel ((!x1)) (
   k (r12sum.out (List.replicate 32 (0 : Int)))) (
   obind (r12bytes.call l) fun x2 =>
   obind (rtag.call ((⟨#[108, 111, 99, 107]⟩ : ByteArray), [x2])) fun x3 =>
   k (r12sum.out x3)) := by kernel_rfl


theorem r12sum.ok : ∀ d, r12sum.Pre d → arun Tryz.prog r12sum.G r12sum.an 0 Tryz.f20 (r12sum.st d).1 (r12sum.st d).2 some = some (r12sum.out (r12sum.add d (r12sum.F d))) := by
  intro l hl
  have hl : LkU l := hl
  have hlen := lkB_len l
  have hp : rtag.Pre ((⟨#[108, 111, 99, 107]⟩ : ByteArray), [lkB l]) := tag_pre1 (by decide) (by omega)
  rw [r12sum.eq, r12right.run (d := l) hl, r12bytes.run (d := l) hl]
  simp only [obind_some, r12right.add, r12right.F, r12bytes.add, r12bytes.F, r12sum.add, r12sum.F, lkS]
  rw [rtag.run hp]
  cases lkOk l <;> rfl

theorem r12sum.inj : ∀ d d', r12sum.st d = r12sum.st d' → d = d' := fun l l' hEq => by
  have e0 : l = l' := d_inj (t := (.pair (.slice (.pair (.slice (.int .u64)) (.pair (.int .i64) (.pair (.int .i64) (.pair (.int .u64) .unit))))) .unit)) (congrArg (fun s : List AVal × List Ent => (s.1.getD 0 .undef)) hEq)
  rw [e0]
noncomputable def r12sum.E : Entry := Entry.of [some (.pair (.slice (.pair (.slice (.int .u64)) (.pair (.int .i64) (.pair (.int .i64) (.pair (.int .u64) .unit))))) .unit)] r12sum.st r12sum.Pre (fun d => r12sum.add d (r12sum.F d)) r12sum.out
noncomputable def r12sum.call : r12sum.D → Option r12sum.X := fun d => r12sum.E.run (r12sum.st d).1 (r12sum.st d).2
theorem r12sum.run {d : r12sum.D} (h : r12sum.Pre d) : r12sum.call d = some (r12sum.add d (r12sum.F d)) := Entry.of_run r12sum.inj h
theorem r12sum.does : Does Tryz.prog 20 r12sum.E := Does.of (by kernel_rfl) (show Sound _ r12sum.G from Sound.cons r12right.does (Sound.cons r12bytes.does (Sound.cons rtag.does (Sound.nil _)))) (by kernel_rfl) (by kernel_rfl) (by kernel_rfl) (LOk.fn 0 (by kernel_rfl) trivial) r12sum.ok

end Go.Ab
namespace Go.Ab
open Go.Proofs
set_option maxRecDepth 100000
set_option linter.unusedVariables false
set_option linter.unusedSimpArgs false

theorem bytesOfStr_of {l : List Int} (h : Bytes l) : bytesOfStr (strOfBytes l) = l := by
  unfold bytesOfStr strOfBytes
  simp only [List.map_map]
  conv => rhs; rw [← List.map_id l]
  refine List.map_congr_left fun x hx => ?_
  obtain ⟨h1, h2⟩ := h x hx
  simp only [Function.comp, id]
  rw [UInt8.toNat_ofNat']
  omega
theorem seq_data (x y : ByteArray) : seq x y = decide (x.data = y.data) := by
  unfold seq
  rw [Go.ByteArray.toList_eq, Go.ByteArray.toList_eq]
  by_cases h : x.data = y.data
  · simp [h]
  · have : ¬ x.data.toList = y.data.toList := fun e => h (Array.toList_inj.1 e)
    rw [dec_false h]
    simpa using this
theorem seq_bytes {x y : List Int} (hx : Bytes x) (hy : Bytes y) : seq (strOfBytes x) (strOfBytes y) = decide (x = y) := by
  rw [seq_data]
  by_cases h : x = y
  · subst h; simp
  · rw [dec_false h]
    refine dec_false fun e => h ?_
    have : strOfBytes x = strOfBytes y := by
      cases hx' : strOfBytes x; cases hy' : strOfBytes y
      rw [hx', hy'] at e
      simp only at e
      rw [e]
    rw [← bytesOfStr_of hx, this, bytesOfStr_of hy]
theorem sne_of {x y : List Int} (hx : Bytes x) (hy : Bytes y) : sne (strOfBytes x) (strOfBytes y) = !decide (x = y) := by
  have := seq_bytes hx hy
  unfold seq at this
  unfold sne
  rw [this]


/-- The branches that the document reads. -/
def brsP : Nat → Int → Rdr → List Brn × Rdr
  | 0, _, r => ([], r)
  | f + 1, n, r => if 0 < n then ((bodyR (min (numR r).1.toNat 13) (numR r).2).1 :: (brsP f (n - 1) (bodyR (min (numR r).1.toNat 13) (numR r).2).2).1, (brsP f (n - 1) (bodyR (min (numR r).1.toNat 13) (numR r).2).2).2) else ([], r)
def parsR (r : Rdr) : List Brn × Rdr := brsP 5 (numR r).1 (numR r).2
theorem brsP_b : ∀ (f : Nat) (n : Int) (r : Rdr), RdrB r → (∀ b ∈ (brsP f n r).1, BrU b) ∧ (brsP f n r).1.length ≤ f ∧ RdrB (brsP f n r).2
  | 0, n, r, h => ⟨fun x hx => (by cases hx), Nat.le_refl _, h⟩
  | f + 1, n, r, h => by
    have h1 := numR_ok h
    have h2 := bodyR_b (min (numR r).1.toNat 13) _ h1.2.2
    have ih := brsP_b f (n - 1) _ h2.2.2
    rw [brsP]
    split
    · refine ⟨fun x hx => ?_, by simp only [List.length_cons]; omega, ih.2.2⟩
      rcases List.mem_cons.1 hx with rfl | hx
      · exact h2.1
      · exact ih.1 x hx
    · exact ⟨fun x hx => (by cases hx), Nat.zero_le _, h⟩
theorem brsP_law : ∀ (bs : List Brn) (f : Nat) (rest : List Int), (∀ b ∈ bs, BrU b) → (∀ b ∈ bs, BrK b) → bs.length ≤ f → brsP f bs.length (bs.flatMap brW ++ rest, false, ()) = (bs, (rest, false, ()))
  | [], 0, rest, _, _, _ => rfl
  | [], f + 1, rest, _, _, _ => by
    rw [brsP, if_neg (by show ¬ (0 : Int) < ((0 : Nat) : Int); omega)]
    rfl
  | b :: bs, 0, rest, _, _, h => absurd h (by simp)
  | b :: bs, f + 1, rest, hu, hk, h => by
    have ub := hu b List.mem_cons_self
    have kb := hk b List.mem_cons_self
    have h : bs.length + 1 ≤ f + 1 := h
    have e : (b :: bs).flatMap brW ++ rest = rowN b.1.length ++ (b.1.flatMap be8 ++ (rowN b.2.1 ++ (rowN b.2.2.1 ++ (be8 b.2.2.2.1 ++ (bs.flatMap brW ++ rest))))) := by rw [List.flatMap_cons, List.append_assoc, brW_rest]
    have h12 := kb.len
    rw [brsP, if_pos (by rw [List.length_cons]; omega), e, numR_row _ (natI_len (by omega))]
    simp only [Int.toNat_natCast]
    rw [Nat.min_eq_left (by omega), bodyR_law b ub kb]
    simp only []
    rw [show ((b :: bs).length : Int) - 1 = (bs.length : Int) by rw [List.length_cons]; omega, brsP_law bs f rest (fun x hx => hu x (List.mem_cons_of_mem _ hx)) (fun x hx => hk x (List.mem_cons_of_mem _ hx)) (by omega)]
theorem parsR_law {l : Lk} (hu : LkU l) (hok : lkOk l = true) (rest : List Int) : parsR (lkB l ++ rest, false, ()) = (l.1, (rest, false, ())) := by
  have hk := lkOk_k hok
  unfold parsR
  rw [lkB_eq hok, List.append_assoc, numR_row _ (natI_len (by omega))]
  exact brsP_law l.1 5 rest hu hk.1 (by omega)
theorem parsR_b {r : Rdr} (h : RdrB r) : LkU ((parsR r).1, ()) ∧ (parsR r).1.length ≤ 5 ∧ RdrB (parsR r).2 := brsP_b 5 _ _ (numR_ok h).2.2
/-- The document reads the same. -/
theorem readP_is {b : List Int} (hb : Bytes b) (hl : b.length ≤ 1000000000) : (if lkOk ((parsR (b, false, ())).1, ()) = true ∧ lkB ((parsR (b, false, ())).1, ()) = b then ((((parsR (b, false, ())).1, ()), true) : Lk × Bool) else (([], ()), false)) = readL b := by
  have g := parsR_b (rdr_of hb hl (false, ()))
  by_cases h : lkOk ((parsR (b, false, ())).1, ()) = true ∧ lkB ((parsR (b, false, ())).1, ()) = b
  · rw [if_pos h]
    have e := readL_law g.1 h.1
    rw [h.2] at e
    exact e.symm
  · rw [if_neg h]
    cases hr : (readL b).2
    · exact (readL_no hr).symm
    · exfalso
      obtain ⟨x, hx, hxb, _, hxe⟩ := readL_is hr
      have hxu : LkU x := by rw [hxe]; exact (readC_u hb hl).1
      have e := parsR_law hxu hx []
      rw [List.append_nil, hxb] at e
      apply h
      rw [e]
      exact ⟨hx, hxb⟩

/-! ### corsned/corsnedref12.Parsed -/
abbrev r12parsed.L0.D := Int × Int × ((List Int) × (Bool × Unit)) × Nat × (List ((List Int) × (Int × (Int × (Int × Unit)))))
def r12parsed.L0.st : r12parsed.L0.D → AS := fun (n, i, o0_2, n3L, n51) => ⟨([.ptr (.old 0) 0 [] 0, .undef, .ptr (.new 2 0) 0 [] 0, .ptr (.new 3 0) 0 [] 0, .d (.int .i64) n, .d (.int .i64) i] ++ undN 48 []), [.obj 0 false (.d (.pair (.slice (.int .u8)) (.pair .bool .unit)) o0_2)], ([[], [], [.obj 0 false (.pr (.nils) (.d .unit ()))], [.obj 0 false (.pr (.sref (.new 51 0) 0 [] 0 0 n3L) (.d .unit ()))]] ++ nilN 47 [[.obj 0 false (.vec 85 (.pair (.slice (.int .u64)) (.pair (.int .i64) (.pair (.int .i64) (.pair (.int .u64) .unit)))) n51)], [], []])⟩
abbrev r12parsed.L0.Y0 := ((List Int) × (Bool × Unit)) × Nat × (List ((List Int) × (Int × (Int × (Int × Unit)))))  -- o0, n3L, n51
abbrev r12parsed.L0.X0 := ((List Int) × (Bool × Unit)) × Nat × (List ((List Int) × (Int × (Int × (Int × Unit)))))
def r12parsed.L0.ex0 : r12parsed.L0.X0 → Exit × AS := fun x => (.exit 0, ⟨([.undef, .undef, .ptr (.new 2 0) 0 [] 0, .ptr (.new 3 0) 0 [] 0] ++ undN 50 []), [.obj 0 false (.d (.pair (.slice (.int .u8)) (.pair .bool .unit)) x.1)], ([[], [], [.obj 0 false (.pr (.nils) (.d .unit ()))], [.obj 0 false (.pr (.sref (.new 51 0) 0 [] 0 0 x.2.1) (.d .unit ()))]] ++ nilN 47 [[.obj 0 false (.vec 85 (.pair (.slice (.int .u64)) (.pair (.int .i64) (.pair (.int .i64) (.pair (.int .u64) .unit)))) x.2.2)], [], []])⟩)
abbrev r12parsed.L0.X := r12parsed.L0.X0
abbrev r12parsed.L0.Y := r12parsed.L0.Y0
def r12parsed.L0.out : r12parsed.L0.X → Out (Exit × AS) := fun x => .ok (r12parsed.L0.ex0 x)
def r12parsed.L0.add : r12parsed.L0.D → r12parsed.L0.Y → r12parsed.L0.X := fun (n, i, o0_2, n3L, n51) y => y
abbrev r12parsed.L1.D := Int × Int × Int × Int × ((List Int) × (Bool × Unit)) × Nat × Nat × (Int × (Int × (Int × Unit))) × (List Int) × (List ((List Int) × (Int × (Int × (Int × Unit)))))
def r12parsed.L1.st : r12parsed.L1.D → AS := fun (n_2, i_2, keys, kv, o0_3, n3L_2, n6L, n6, n36, n51_2) => ⟨([.ptr (.old 0) 0 [] 0, .undef, .ptr (.new 2 0) 0 [] 0, .ptr (.new 3 0) 0 [] 0, .d (.int .i64) n_2, .d (.int .i64) i_2, .ptr (.new 6 0) 0 [] 0, .d (.int .i64) keys, .d (.int .i64) kv] ++ undN 45 []), [.obj 0 false (.d (.pair (.slice (.int .u8)) (.pair .bool .unit)) o0_3)], ([[], [], [.obj 0 false (.pr (.nils) (.d .unit ()))], [.obj 0 false (.pr (.sref (.new 51 0) 0 [] 0 0 n3L_2) (.d .unit ()))], [], [], [.obj 0 false (.pr (.sref (.new 36 0) 0 [] 0 0 n6L) (.d (.pair (.int .i64) (.pair (.int .i64) (.pair (.int .u64) .unit))) n6))]] ++ nilN 29 ([[.obj 0 false (.vec 58 (.int .u64) n36)]] ++ nilN 14 [[.obj 0 false (.vec 85 (.pair (.slice (.int .u64)) (.pair (.int .i64) (.pair (.int .i64) (.pair (.int .u64) .unit)))) n51_2)], [], []]))⟩
abbrev r12parsed.L1.Y0 := ((List Int) × (Bool × Unit)) × Nat × (List Int)  -- o0, n6L, n36
abbrev r12parsed.L1.X0 := (Int × Int × Nat × (Int × (Int × (Int × Unit))) × (List ((List Int) × (Int × (Int × (Int × Unit)))))) × (((List Int) × (Bool × Unit)) × Nat × (List Int))
def r12parsed.L1.ex0 : r12parsed.L1.X0 → Exit × AS := fun x => (.exit 2, ⟨([.ptr (.old 0) 0 [] 0, .undef, .ptr (.new 2 0) 0 [] 0, .ptr (.new 3 0) 0 [] 0, .d (.int .i64) x.1.1, .d (.int .i64) x.1.2.1, .ptr (.new 6 0) 0 [] 0] ++ undN 47 []), [.obj 0 false (.d (.pair (.slice (.int .u8)) (.pair .bool .unit)) x.2.1)], ([[], [], [.obj 0 false (.pr (.nils) (.d .unit ()))], [.obj 0 false (.pr (.sref (.new 51 0) 0 [] 0 0 x.1.2.2.1) (.d .unit ()))], [], [], [.obj 0 false (.pr (.sref (.new 36 0) 0 [] 0 0 x.2.2.1) (.d (.pair (.int .i64) (.pair (.int .i64) (.pair (.int .u64) .unit))) x.1.2.2.2.1))]] ++ nilN 29 ([[.obj 0 false (.vec 58 (.int .u64) x.2.2.2)]] ++ nilN 14 [[.obj 0 false (.vec 85 (.pair (.slice (.int .u64)) (.pair (.int .i64) (.pair (.int .i64) (.pair (.int .u64) .unit)))) x.1.2.2.2.2)], [], []]))⟩)
abbrev r12parsed.L1.X := r12parsed.L1.X0
abbrev r12parsed.L1.Y := r12parsed.L1.Y0
def r12parsed.L1.out : r12parsed.L1.X → Out (Exit × AS) := fun x => .ok (r12parsed.L1.ex0 x)
def r12parsed.L1.add : r12parsed.L1.D → r12parsed.L1.Y → r12parsed.L1.X := fun (n_2, i_2, keys, kv, o0_3, n3L_2, n6L, n6, n36, n51_2) y => ((n_2, i_2, n3L_2, n6, n51_2), y)
abbrev r12parsed.D := ((List Int) × (Bool × Unit))
def r12parsed.st : r12parsed.D → List AVal × List Ent := fun o0 => ([.ptr (.old 0) 0 [] 0], [.obj 0 false (.d (.pair (.slice (.int .u8)) (.pair .bool .unit)) o0)])
abbrev r12parsed.Y := ((List ((List Int) × (Int × (Int × (Int × Unit))))) × Unit) × ((List Int) × (Bool × Unit))
abbrev r12parsed.X := ((List ((List Int) × (Int × (Int × (Int × Unit))))) × Unit) × ((List Int) × (Bool × Unit))
def r12parsed.out : r12parsed.X → GRes := fun x => ⟨.d (.pair (.slice (.pair (.slice (.int .u64)) (.pair (.int .i64) (.pair (.int .i64) (.pair (.int .u64) .unit))))) .unit) x.1, [.obj 0 false (.d (.pair (.slice (.int .u8)) (.pair .bool .unit)) x.2)], []⟩
def r12parsed.add : r12parsed.D → r12parsed.Y → r12parsed.X := fun o0 y => y


def r12parsed.L1.Pre : r12parsed.L1.D → Prop := fun (n, i, t, j, r, m1, m2, x, ks, bs) => RdrB r ∧ ks.length = m2 ∧ ∃ k c : Nat, j = k ∧ t = c ∧ k ≤ min c 13 ∧ m2 = k
def r12parsed.L1.F : r12parsed.L1.D → r12parsed.L1.Y := fun (n, i, t, j, r, m1, m2, x, ks, bs) => ((keysR (min t.toNat 13 - j.toNat) r).2, m2 + (min t.toNat 13 - j.toNat), ks ++ (keysR (min t.toNat 13 - j.toNat) r).1)
def r12parsed.L0.Pre : r12parsed.L0.D → Prop := fun (n, i, r, m, bs) => RdrB r ∧ bs.length = m ∧ ∃ k : Nat, i = k ∧ k ≤ 5 ∧ m = k
def r12parsed.L0.F : r12parsed.L0.D → r12parsed.L0.Y := fun (n, i, r, m, bs) => ((brsP (5 - i.toNat) (n - i) r).2, m + (brsP (5 - i.toNat) (n - i) r).1.length, bs ++ (brsP (5 - i.toNat) (n - i) r).1)
def r12parsed.Pre : r12parsed.D → Prop := fun r => RdrB r
def r12parsed.F : r12parsed.D → r12parsed.Y := fun r => (((parsR r).1, ()), (parsR r).2)

noncomputable def r12parsed.G : Gam := gcons 81 anyArgs r8num.E (gcons 115 anyArgs r8u64.E (gnil))
noncomputable def r12parsed.L0.E : LEntry := LEntry.of r12parsed.L0.st r12parsed.L0.Pre (fun d => r12parsed.L0.add d (r12parsed.L0.F d)) r12parsed.L0.out
noncomputable def r12parsed.L0.call : r12parsed.L0.D → Option r12parsed.L0.X := fun d => r12parsed.L0.E.run (r12parsed.L0.st d)
noncomputable def r12parsed.L1.E : LEntry := LEntry.of r12parsed.L1.st r12parsed.L1.Pre (fun d => r12parsed.L1.add d (r12parsed.L1.F d)) r12parsed.L1.out
noncomputable def r12parsed.L1.call : r12parsed.L1.D → Option r12parsed.L1.X := fun d => r12parsed.L1.E.run (r12parsed.L1.st d)
noncomputable def r12parsed.an : Ann := {
  objs := [],
  loops := fun r => bif Nat.beq r 4 then { keep := [0, 2, 3, 4, 5], sites := [2, 3, 51], frz := [], data := [], owns := [⟨3, [.fst], 51, 22⟩] } else bif Nat.beq r 9 then { keep := [0, 2, 3, 4, 5, 6, 7, 8], sites := [2, 3, 6, 36, 51], frz := [], data := [], owns := [⟨6, [.fst], 36, 83⟩] } else { keep := [], sites := [], frz := [], data := [], owns := [] },
  outs := fun r b => bif Nat.beq r 4 then (bif b then { keep := [2], sites := [], frz := [], data := [], owns := [] } else { keep := [2, 3], sites := [2, 3, 51], frz := [], data := [], owns := [] }) else bif Nat.beq r 9 then (bif b then { keep := [2], sites := [], frz := [], data := [], owns := [] } else { keep := [0, 2, 3, 4, 5, 6], sites := [2, 3, 6, 36, 51], frz := [], data := [], owns := [] }) else { keep := [], sites := [], frz := [], data := [], owns := [] },
  sums := fun r => bif Nat.beq r 4 then some r12parsed.L0.E else bif Nat.beq r 9 then some r12parsed.L1.E else none,
  owns := [],
  trim := [],
  res := [some (.pair (.slice (.pair (.slice (.int .u64)) (.pair (.int .i64) (.pair (.int .i64) (.pair (.int .u64) .unit))))) .unit)] }
theorem r12parsed.L0.inj : ∀ d d', r12parsed.L0.st d = r12parsed.L0.st d' → d = d' := fun (n, i, o0_2, n3L, n51) (n', i', o0_2', n3L', n51') hEq => by
  have e0 : n = n' := d_inj (t := (.int .i64)) (congrArg (fun s : AS => (s.slot 4)) hEq)
  have e1 : i = i' := d_inj (t := (.int .i64)) (congrArg (fun s : AS => (s.slot 5)) hEq)
  have e2 : o0_2 = o0_2' := d_inj (t := (.pair (.slice (.int .u8)) (.pair .bool .unit))) (congrArg (fun s : AS => (entC (s.ent (.old 0)))) hEq)
  have e3 : n3L = n3L' := congrArg (fun s : AS => srefLen (prA (entC (s.ent (.new 3 0))))) hEq
  have e4 : n51 = n51' := vec_inj (e := 85) (t := (.pair (.slice (.int .u64)) (.pair (.int .i64) (.pair (.int .i64) (.pair (.int .u64) .unit))))) (congrArg (fun s : AS => (entC (s.ent (.new 51 0)))) hEq)
  rw [e0, e1, e2, e3, e4]
theorem r12parsed.L0.run {d : r12parsed.L0.D} (h : r12parsed.L0.Pre d) : r12parsed.L0.call d = some (r12parsed.L0.add d (r12parsed.L0.F d)) := LEntry.of_run r12parsed.L0.inj h
theorem r12parsed.L0.byRounds (μ : r12parsed.L0.D → Nat) (h : ∀ d, r12parsed.L0.Pre d → (∃ d', r12parsed.L0.Pre d' ∧ μ d' < μ d ∧ r12parsed.L0.add d' (r12parsed.L0.F d') = r12parsed.L0.add d (r12parsed.L0.F d) ∧ ∀ {R : Type} (kn : AS → Option R) (kx : Exit → AS → Option R), lround Tryz.prog r12parsed.G r12parsed.an 0 Tryz.f59 0 (r12parsed.L0.st d) kn kx = kn (r12parsed.L0.st d')) ∨ (∀ {R : Type} (kn : AS → Option R) (kx : Exit → AS → Option R), lround Tryz.prog r12parsed.G r12parsed.an 0 Tryz.f59 0 (r12parsed.L0.st d) kn kx = kx (r12parsed.L0.ex0 (r12parsed.L0.add d (r12parsed.L0.F d))).1 (r12parsed.L0.ex0 (r12parsed.L0.add d (r12parsed.L0.F d))).2)) : ∀ d, r12parsed.L0.Pre d → ∃ n, lrun Tryz.prog r12parsed.G r12parsed.an 0 Tryz.f59 0 n (r12parsed.L0.st d) (fun e s => some (e, s)) = (r12parsed.L0.out (r12parsed.L0.add d (r12parsed.L0.F d))).eval := lrun_one (F := fun d => r12parsed.L0.add d (r12parsed.L0.F d)) μ h
theorem r12parsed.L0.step {R : Type} (n : Int) (i : Int) (o0_2 : ((List Int) × (Bool × Unit))) (n3L : Nat) (n51 : (List ((List Int) × (Int × (Int × (Int × Unit)))))) (kn : AS → Option R) (kx : Exit → AS → Option R) : lround Tryz.prog r12parsed.G r12parsed.an 0 Tryz.f59 0 (r12parsed.L0.st (n, i, o0_2, n3L, n51)) kn kx =
  sel ((ilt i n)) (
   sel ((ilt i (5 : Int))) (
    obind (r8num.call o0_2) fun x1 =>
    obind (r12parsed.L1.call (n, i, x1.1, (0 : Int), x1.2, n3L, 0, ((0 : Int), ((0 : Int), ((0 : Int), ()))), ([] : List Int), n51)) fun x2 =>
    obind (r8num.call x2.2.1) fun x3 =>
    obind (r8num.call x3.2) fun x4 =>
    obind (r8u64.call x4.2) fun x5 =>
    sel (decide (0 = 0 ∧ (0 + x2.2.2.1) ≤ (List.length x2.2.2.2))) (
    sel (decide (x2.1.2.2.1 ≤ (List.length x2.1.2.2.2.2))) (
    sel (roomA (x2.1.2.2.1 + 1) 48) (
    kn (r12parsed.L0.st (x2.1.1, (iadd .i64 x2.1.2.1 (1 : Int)), x5.2, (x2.1.2.2.1 + 1), ((List.take x2.1.2.2.1 x2.1.2.2.2.2) ++ [((cut x2.2.2.2 0 x2.2.2.1), (x3.1, (x4.1, (x5.1, x2.1.2.2.2.1.2.2.2))))])))) none) none) none) (
    kx (r12parsed.L0.ex0 (o0_2, n3L, n51)).1 (r12parsed.L0.ex0 (o0_2, n3L, n51)).2)) (
   kx (r12parsed.L0.ex0 (o0_2, n3L, n51)).1 (r12parsed.L0.ex0 (o0_2, n3L, n51)).2) := by kernel_rfl
theorem r12parsed.L1.inj : ∀ d d', r12parsed.L1.st d = r12parsed.L1.st d' → d = d' := fun (n_2, i_2, keys, kv, o0_3, n3L_2, n6L, n6, n36, n51_2) (n_2', i_2', keys', kv', o0_3', n3L_2', n6L', n6', n36', n51_2') hEq => by
  have e0 : n_2 = n_2' := d_inj (t := (.int .i64)) (congrArg (fun s : AS => (s.slot 4)) hEq)
  have e1 : i_2 = i_2' := d_inj (t := (.int .i64)) (congrArg (fun s : AS => (s.slot 5)) hEq)
  have e2 : keys = keys' := d_inj (t := (.int .i64)) (congrArg (fun s : AS => (s.slot 7)) hEq)
  have e3 : kv = kv' := d_inj (t := (.int .i64)) (congrArg (fun s : AS => (s.slot 8)) hEq)
  have e4 : o0_3 = o0_3' := d_inj (t := (.pair (.slice (.int .u8)) (.pair .bool .unit))) (congrArg (fun s : AS => (entC (s.ent (.old 0)))) hEq)
  have e5 : n3L_2 = n3L_2' := congrArg (fun s : AS => srefLen (prA (entC (s.ent (.new 3 0))))) hEq
  have e6 : n6L = n6L' := congrArg (fun s : AS => srefLen (prA (entC (s.ent (.new 6 0))))) hEq
  have e7 : n6 = n6' := d_inj (t := (.pair (.int .i64) (.pair (.int .i64) (.pair (.int .u64) .unit)))) (congrArg (fun s : AS => (prB (entC (s.ent (.new 6 0))))) hEq)
  have e8 : n36 = n36' := vec_inj (e := 58) (t := (.int .u64)) (congrArg (fun s : AS => (entC (s.ent (.new 36 0)))) hEq)
  have e9 : n51_2 = n51_2' := vec_inj (e := 85) (t := (.pair (.slice (.int .u64)) (.pair (.int .i64) (.pair (.int .i64) (.pair (.int .u64) .unit))))) (congrArg (fun s : AS => (entC (s.ent (.new 51 0)))) hEq)
  rw [e0, e1, e2, e3, e4, e5, e6, e7, e8, e9]
theorem r12parsed.L1.run {d : r12parsed.L1.D} (h : r12parsed.L1.Pre d) : r12parsed.L1.call d = some (r12parsed.L1.add d (r12parsed.L1.F d)) := LEntry.of_run r12parsed.L1.inj h
theorem r12parsed.L1.byRounds (μ : r12parsed.L1.D → Nat) (h : ∀ d, r12parsed.L1.Pre d → (∃ d', r12parsed.L1.Pre d' ∧ μ d' < μ d ∧ r12parsed.L1.add d' (r12parsed.L1.F d') = r12parsed.L1.add d (r12parsed.L1.F d) ∧ ∀ {R : Type} (kn : AS → Option R) (kx : Exit → AS → Option R), lround Tryz.prog r12parsed.G r12parsed.an 0 Tryz.f59 1 (r12parsed.L1.st d) kn kx = kn (r12parsed.L1.st d')) ∨ (∀ {R : Type} (kn : AS → Option R) (kx : Exit → AS → Option R), lround Tryz.prog r12parsed.G r12parsed.an 0 Tryz.f59 1 (r12parsed.L1.st d) kn kx = kx (r12parsed.L1.ex0 (r12parsed.L1.add d (r12parsed.L1.F d))).1 (r12parsed.L1.ex0 (r12parsed.L1.add d (r12parsed.L1.F d))).2)) : ∀ d, r12parsed.L1.Pre d → ∃ n, lrun Tryz.prog r12parsed.G r12parsed.an 0 Tryz.f59 1 n (r12parsed.L1.st d) (fun e s => some (e, s)) = (r12parsed.L1.out (r12parsed.L1.add d (r12parsed.L1.F d))).eval := lrun_one (F := fun d => r12parsed.L1.add d (r12parsed.L1.F d)) μ h
theorem r12parsed.L1.step {R : Type} (n_2 : Int) (i_2 : Int) (keys : Int) (kv : Int) (o0_3 : ((List Int) × (Bool × Unit))) (n3L_2 : Nat) (n6L : Nat) (n6 : (Int × (Int × (Int × Unit)))) (n36 : (List Int)) (n51_2 : (List ((List Int) × (Int × (Int × (Int × Unit)))))) (kn : AS → Option R) (kx : Exit → AS → Option R) : lround Tryz.prog r12parsed.G r12parsed.an 0 Tryz.f59 1 (r12parsed.L1.st (n_2, i_2, keys, kv, o0_3, n3L_2, n6L, n6, n36, n51_2)) kn kx =
  sel ((ilt kv keys)) (
   sel ((ilt kv (13 : Int))) (
    obind (r8u64.call o0_3) fun x1 =>
    sel (decide (n6L ≤ (List.length n36))) (
    sel (roomA (n6L + 1) 8) (
    kn (r12parsed.L1.st (n_2, i_2, keys, (iadd .i64 kv (1 : Int)), x1.2, n3L_2, (n6L + 1), n6, ((List.take n6L n36) ++ [x1.1]), n51_2))) none) none) (
    kx (r12parsed.L1.ex0 ((n_2, i_2, n3L_2, n6, n51_2), (o0_3, n6L, n36))).1 (r12parsed.L1.ex0 ((n_2, i_2, n3L_2, n6, n51_2), (o0_3, n6L, n36))).2)) (
   kx (r12parsed.L1.ex0 ((n_2, i_2, n3L_2, n6, n51_2), (o0_3, n6L, n36))).1 (r12parsed.L1.ex0 ((n_2, i_2, n3L_2, n6, n51_2), (o0_3, n6L, n36))).2) := by kernel_rfl
theorem r12parsed.eq {R : Type} (o0 : ((List Int) × (Bool × Unit))) (k : GRes → Option R) : arun Tryz.prog r12parsed.G r12parsed.an 0 Tryz.f59 (r12parsed.st o0).1 (r12parsed.st o0).2 k =
  obind (r8num.call o0) fun x1 =>
  obind (r12parsed.L0.call (x1.1, (0 : Int), x1.2, 0, ([] : List ((List Int) × (Int × (Int × (Int × Unit))))))) fun x16 =>
  sel (decide (0 = 0 ∧ (0 + x16.2.1) ≤ (List.length x16.2.2))) (
  k (r12parsed.out (((cut x16.2.2 0 x16.2.1), ()), x16.1))) none := by kernel_rfl


theorem r12parsed.L1.ok : ∀ d, r12parsed.L1.Pre d → ∃ n, lrun Tryz.prog r12parsed.G r12parsed.an 0 Tryz.f59 1 n (r12parsed.L1.st d) (fun e s => some (e, s)) = (r12parsed.L1.out (r12parsed.L1.add d (r12parsed.L1.F d))).eval := by
  refine r12parsed.L1.byRounds (fun (n, i, t, j, r, m1, m2, x, ks, bs) => min t.toNat 13 - j.toNat) ?_
  rintro ⟨n, i, t, j, r, m1, m2, x, ks, bs⟩ ⟨hr, hks, k, c, rfl, rfl, hkc, hmk⟩
  have hr : RdrB r := hr
  have hks : ks.length = m2 := hks
  have hmk : m2 = k := hmk
  by_cases h : k < min c 13
  · left
    have e1 : min (c : Int).toNat 13 - (k : Int).toNat = (min c 13 - (k + 1)) + 1 := by simp only [Int.toNat_natCast]; omega
    have e2 : min (c : Int).toNat 13 - ((k + 1 : Nat) : Int).toNat = min c 13 - (k + 1) := by simp only [Int.toNat_natCast]
    refine ⟨(n, i, (c : Int), ((k + 1 : Nat) : Int), (u64R r).2, m1, m2 + 1, x, ks ++ [(u64R r).1], bs), ⟨(u64R_u hr).2, by rw [List.length_append]; show ks.length + 1 = _; omega, k + 1, c, rfl, rfl, by omega, by omega⟩, by simp only [Int.toNat_natCast]; omega, ?_, fun kn kx => ?_⟩
    · simp only [r12parsed.L1.add, r12parsed.L1.F, e1, e2, keysR, List.append_assoc, List.singleton_append]
      rw [show m2 + 1 + (min c 13 - (k + 1)) = m2 + (min c 13 - (k + 1) + 1) by omega]
    · rw [r12parsed.L1.step, ilt_true (by omega), ilt_true (by omega), r8u64.run (d := r) hr]
      simp only [obind_some, sel_true, r8u64.add, r8u64.F]
      rw [dec_true (by omega), room_true (by omega) (by omega), N.aNL (by omega), List.take_of_length_le (by omega)]
      rfl
  · right
    have hkm : k = min c 13 := by omega
    have e1 : min (c : Int).toNat 13 - (k : Int).toNat = 0 := by simp only [Int.toNat_natCast]; omega
    intro R kn kx
    rw [r12parsed.L1.step]
    simp only [r12parsed.L1.add, r12parsed.L1.F, e1, keysR, List.append_nil, Nat.add_zero]
    by_cases h1 : k < c
    · rw [ilt_true (by omega), ilt_false (by omega)]; rfl
    · rw [ilt_false (by omega)]; rfl
theorem r12parsed.L0.ok : ∀ d, r12parsed.L0.Pre d → ∃ n, lrun Tryz.prog r12parsed.G r12parsed.an 0 Tryz.f59 0 n (r12parsed.L0.st d) (fun e s => some (e, s)) = (r12parsed.L0.out (r12parsed.L0.add d (r12parsed.L0.F d))).eval := by
  refine r12parsed.L0.byRounds (fun (n, i, r, m, bs) => 5 - i.toNat) ?_
  rintro ⟨n, i, r, m, bs⟩ ⟨hr, hbs, k, rfl, hk, hmk⟩
  have hr : RdrB r := hr
  have hbs : bs.length = m := hbs
  have hmk : m = k := hmk
  have g1 := numR_ok hr
  by_cases h : (k : Int) < n ∧ k < 5
  · left
    have e0 : 5 - (k : Int).toNat = (4 - k) + 1 := by rw [Int.toNat_natCast]; omega
    have e1 : 5 - ((k + 1 : Nat) : Int).toNat = 4 - k := by rw [Int.toNat_natCast]; omega
    have hp : 0 < n - (k : Int) := by omega
    obtain ⟨c, hcn⟩ : ∃ c : Nat, (numR r).1 = c := ⟨(numR r).1.toNat, by omega⟩
    have hbd := bodyR_b (min c 13) _ g1.2.2
    have gk := keysR_b (min c 13) _ g1.2.2
    have ga := numR_ok gk.2.2
    have gd := numR_ok ga.2.2
    have eb : brsP ((4 - k) + 1) (n - (k : Int)) r = ((bodyR (min c 13) (numR r).2).1 :: (brsP (4 - k) (n - (k : Int) - 1) (bodyR (min c 13) (numR r).2).2).1, (brsP (4 - k) (n - (k : Int) - 1) (bodyR (min c 13) (numR r).2).2).2) := by
      rw [brsP, if_pos hp, hcn, Int.toNat_natCast]
    refine ⟨(n, ((k + 1 : Nat) : Int), (bodyR (min c 13) (numR r).2).2, m + 1, bs ++ [(bodyR (min c 13) (numR r).2).1]), ⟨hbd.2.2, by rw [List.length_append]; show bs.length + 1 = _; omega, k + 1, rfl, by omega, by omega⟩, by simp only [Int.toNat_natCast]; omega, ?_, fun kn kx => ?_⟩
    · simp only [r12parsed.L0.add, r12parsed.L0.F, e0, e1, eb, List.append_assoc, List.singleton_append, List.length_cons]
      rw [show n - ((k + 1 : Nat) : Int) = n - (k : Int) - 1 by omega, show m + 1 + (brsP (4 - k) (n - (k : Int) - 1) (bodyR (min c 13) (numR r).2).2).1.length = m + ((brsP (4 - k) (n - (k : Int) - 1) (bodyR (min c 13) (numR r).2).2).1.length + 1) by omega]
    · rw [r12parsed.L0.step, ilt_true h.1, ilt_true (by omega), r8num.run (d := r) hr]
      simp only [obind_some, sel_true, r8num.add, r8num.F]
      rw [hcn, r12parsed.L1.run (d := (n, (k : Int), (c : Int), 0, (numR r).2, m, 0, (0, 0, 0, ()), [], bs)) ⟨g1.2.2, rfl, 0, c, rfl, rfl, Nat.zero_le _, rfl⟩]
      simp only [obind_some, r12parsed.L1.add, r12parsed.L1.F, Int.toNat_zero, Nat.sub_zero, Int.toNat_natCast, Nat.zero_add, List.nil_append]
      rw [r8num.run (d := (keysR (min c 13) (numR r).2).2) gk.2.2]
      simp only [obind_some, r8num.add, r8num.F]
      rw [r8num.run (d := (numR (keysR (min c 13) (numR r).2).2).2) ga.2.2]
      simp only [obind_some, r8num.add, r8num.F]
      rw [r8u64.run (d := (numR (numR (keysR (min c 13) (numR r).2).2).2).2) gd.2.2]
      simp only [obind_some, r8u64.add, r8u64.F]
      rw [dec_true ⟨by trivial, by rw [gk.2.1]; exact Nat.le_refl _⟩, dec_true (by omega), room_true (by omega) (by omega), N.aNL (by omega), List.take_of_length_le (by omega), cut_len gk.2.1]
      rfl
  · right
    intro R kn kx
    have eb : brsP (5 - k) (n - (k : Int)) r = ([], r) := by
      by_cases h5 : k = 5
      · subst h5; rfl
      · rw [show 5 - k = (4 - k) + 1 by omega, brsP, if_neg (by omega)]
    rw [r12parsed.L0.step]
    simp only [r12parsed.L0.add, r12parsed.L0.F, Int.toNat_natCast, eb, List.length_nil, Nat.add_zero, List.append_nil]
    by_cases h1 : (k : Int) < n
    · rw [ilt_true h1, ilt_false (by omega)]; rfl
    · rw [ilt_false h1]; rfl
theorem r12parsed.ok : ∀ d, r12parsed.Pre d → arun Tryz.prog r12parsed.G r12parsed.an 0 Tryz.f59 (r12parsed.st d).1 (r12parsed.st d).2 some = some (r12parsed.out (r12parsed.add d (r12parsed.F d))) := by
  intro r h
  have h : RdrB r := h
  have g1 := numR_ok h
  rw [r12parsed.eq, r8num.run (d := r) h]
  simp only [obind_some, r8num.add, r8num.F]
  rw [r12parsed.L0.run (d := ((numR r).1, 0, (numR r).2, 0, [])) ⟨g1.2.2, rfl, 0, rfl, by decide, rfl⟩]
  simp only [obind_some, r12parsed.L0.add, r12parsed.L0.F, Int.toNat_zero, Nat.sub_zero, Int.sub_zero, Nat.zero_add, List.nil_append, Nat.le_refl, and_self, decide_true, sel_true, cut_len]
  rfl

theorem r12parsed.inj : ∀ d d', r12parsed.st d = r12parsed.st d' → d = d' := fun o0 o0' hEq => by
  have e0 : o0 = o0' := d_inj (t := (.pair (.slice (.int .u8)) (.pair .bool .unit))) (congrArg (fun s : List AVal × List Ent => (entD (s.2.getD 0 .dead))) hEq)
  rw [e0]
noncomputable def r12parsed.E : Entry := Entry.of [none] r12parsed.st r12parsed.Pre (fun d => r12parsed.add d (r12parsed.F d)) r12parsed.out
noncomputable def r12parsed.call : r12parsed.D → Option r12parsed.X := fun d => r12parsed.E.run (r12parsed.st d).1 (r12parsed.st d).2
theorem r12parsed.run {d : r12parsed.D} (h : r12parsed.Pre d) : r12parsed.call d = some (r12parsed.add d (r12parsed.F d)) := Entry.of_run r12parsed.inj h
theorem r12parsed.does : Does Tryz.prog 59 r12parsed.E := Does.of (by kernel_rfl) (show Sound _ r12parsed.G from Sound.cons r8num.does (Sound.cons r8u64.does (Sound.nil _))) (by kernel_rfl) (by kernel_rfl) (by kernel_rfl) (LOk.fn 2 (by kernel_rfl) (And.intro (LDo.of (by kernel_rfl) r12parsed.L0.ok) (And.intro (LDo.of (by kernel_rfl) r12parsed.L1.ok) trivial))) r12parsed.ok

/-! ### corsned/corsnedref12.Read -/
abbrev r12read.D := (List Int)
def r12read.st : r12read.D → List AVal × List Ent := fun b => ([.d (.slice (.int .u8)) b], [])
abbrev r12read.Y := ((List ((List Int) × (Int × (Int × (Int × Unit))))) × Unit) × Bool
abbrev r12read.X := ((List ((List Int) × (Int × (Int × (Int × Unit))))) × Unit) × Bool
def r12read.out : r12read.X → GRes := fun x => ⟨.cons (.d (.pair (.slice (.pair (.slice (.int .u64)) (.pair (.int .i64) (.pair (.int .i64) (.pair (.int .u64) .unit))))) .unit) x.1) (.cons (.d .bool x.2) (.nil)), [], []⟩
def r12read.add : r12read.D → r12read.Y → r12read.X := fun b y => y


def r12read.Pre : r12read.D → Prop := fun b => Bytes b ∧ b.length ≤ 1000000000
def r12read.F : r12read.D → r12read.Y := fun b => readL b

noncomputable def r12read.G : Gam := gcons 60 anyArgs r8open.E (gcons 59 anyArgs r12parsed.E (gcons 14 anyArgs r12right.E (gcons 18 anyArgs r12bytes.E (gnil))))
noncomputable def r12read.an : Ann := {
  objs := [],
  loops := fun r => { keep := [], sites := [], frz := [], data := [], owns := [] },
  outs := fun r b => { keep := [], sites := [], frz := [], data := [], owns := [] },
  sums := fun r => none,
  owns := [],
  trim := [],
  res := [some (.pair (.slice (.pair (.slice (.int .u64)) (.pair (.int .i64) (.pair (.int .i64) (.pair (.int .u64) .unit))))) .unit), none] }
theorem r12read.eq {R : Type} (b : (List Int)) (k : GRes → Option R) : arun Tryz.prog r12read.G r12read.an 0 Tryz.f12 (r12read.st b).1 (r12read.st b).2 k =
  obind (r8open.call b) fun x1 =>
  obind (r12parsed.call x1) fun x2 =>
  obind (r12right.call x2.1) fun x3 =>
  sel ((!x3)) (
   k (r12read.out ((([] : List ((List Int) × (Int × (Int × (Int × Unit))))), ()), false))) (
   obind (r12bytes.call x2.1) fun x4 =>
   sel ((sne (strOfBytes x4) (strOfBytes b))) (
    k (r12read.out ((([] : List ((List Int) × (Int × (Int × (Int × Unit))))), ()), false))) (
    k (r12read.out (x2.1, true)))) := by kernel_rfl


theorem r12read.ok : ∀ d, r12read.Pre d → arun Tryz.prog r12read.G r12read.an 0 Tryz.f12 (r12read.st d).1 (r12read.st d).2 some = some (r12read.out (r12read.add d (r12read.F d))) := by
  rintro b ⟨hb, hl⟩
  have hb : Bytes b := hb
  have hl : b.length ≤ 1000000000 := hl
  have g0 := rdr_of hb hl (false, ())
  have gp := parsR_b g0
  rw [r12read.eq, r8open.run (d := b) hl]
  simp only [obind_some, r8open.add, r8open.F]
  rw [r12parsed.run (d := (b, false, ())) g0]
  simp only [obind_some, r12parsed.add, r12parsed.F, r12read.add, r12read.F]
  rw [r12right.run (d := ((parsR (b, false, ())).1, ())) gp.1, ← readP_is hb hl]
  simp only [obind_some, r12right.add, r12right.F]
  cases hok : lkOk ((parsR (b, false, ())).1, ())
  · rw [if_neg (by rintro ⟨x, _⟩; cases x)]; rfl
  · rw [r12bytes.run (d := ((parsR (b, false, ())).1, ())) gp.1]
    simp only [Bool.not_true, sel_false, obind_some, r12bytes.add, r12bytes.F]
    have hB := lkB_bytes ((parsR (b, false, ())).1, ())
    rw [sne_of hB hb]
    by_cases hx : lkB ((parsR (b, false, ())).1, ()) = b
    · rw [dec_true hx, if_pos ⟨by trivial, hx⟩]; rfl
    · rw [dec_false hx, if_neg (fun y => hx y.2)]; rfl

theorem r12read.inj : ∀ d d', r12read.st d = r12read.st d' → d = d' := fun b b' hEq => by
  have e0 : b = b' := d_inj (t := (.slice (.int .u8))) (congrArg (fun s : List AVal × List Ent => (s.1.getD 0 .undef)) hEq)
  rw [e0]
noncomputable def r12read.E : Entry := Entry.of [some (.slice (.int .u8))] r12read.st r12read.Pre (fun d => r12read.add d (r12read.F d)) r12read.out
noncomputable def r12read.call : r12read.D → Option r12read.X := fun d => r12read.E.run (r12read.st d).1 (r12read.st d).2
theorem r12read.run {d : r12read.D} (h : r12read.Pre d) : r12read.call d = some (r12read.add d (r12read.F d)) := Entry.of_run r12read.inj h
theorem r12read.does : Does Tryz.prog 12 r12read.E := Does.of (by kernel_rfl) (show Sound _ r12read.G from Sound.cons r8open.does (Sound.cons r12parsed.does (Sound.cons r12right.does (Sound.cons r12bytes.does (Sound.nil _))))) (by kernel_rfl) (by kernel_rfl) (by kernel_rfl) (LOk.fn 0 (by kernel_rfl) trivial) r12read.ok

end Go.Ab
namespace Go.Ab
open Go.Proofs
set_option maxRecDepth 100000
set_option linter.unusedVariables false
set_option linter.unusedSimpArgs false

/-! ### corsned/corsnedref12.Same -/
abbrev r12same.L0.D := ((List ((List Int) × (Int × (Int × (Int × Unit))))) × Unit) × ((List ((List Int) × (Int × (Int × (Int × Unit))))) × Unit) × Int
def r12same.L0.st : r12same.L0.D → AS := fun (a_2, b_2, i) => ⟨([.undef, .undef, .rptr (.pair (.slice (.pair (.slice (.int .u64)) (.pair (.int .i64) (.pair (.int .i64) (.pair (.int .u64) .unit))))) .unit) a_2, .rptr (.pair (.slice (.pair (.slice (.int .u64)) (.pair (.int .i64) (.pair (.int .i64) (.pair (.int .u64) .unit))))) .unit) b_2, .undef, .d (.int .i64) i] ++ undN 73 []), [], (List.replicate 79 [])⟩
abbrev r12same.L0.Y0 := Unit
abbrev r12same.L0.X0 := Unit
def r12same.L0.ex0 : r12same.L0.X0 → Exit × AS := fun x => (.ret, ⟨(undN 4 ([.d .bool false] ++ undN 74 [])), [], (List.replicate 79 [])⟩)
abbrev r12same.L0.Y1 := Unit
abbrev r12same.L0.X1 := Unit
def r12same.L0.ex1 : r12same.L0.X1 → Exit × AS := fun x => (.exit 0, ⟨(undN 79 []), [], (List.replicate 79 [])⟩)
abbrev r12same.L0.X := (r12same.L0.X0) ⊕ (r12same.L0.X1)
abbrev r12same.L0.Y := (r12same.L0.Y0) ⊕ (r12same.L0.Y1)
def r12same.L0.out : r12same.L0.X → Out (Exit × AS) := fun x => .br x.isLeft (.get x.getLeft? fun a => .ok (r12same.L0.ex0 a)) (.get x.getRight? fun b => .ok (r12same.L0.ex1 b))
def r12same.L0.add : r12same.L0.D → r12same.L0.Y → r12same.L0.X := fun (a_2, b_2, i) y => match y with | .inl y => .inl y | .inr z => .inr (z)
abbrev r12same.L1.D := ((List ((List Int) × (Int × (Int × (Int × Unit))))) × Unit) × ((List ((List Int) × (Int × (Int × (Int × Unit))))) × Unit) × Int × Int × ((List Int) × (Int × (Int × (Int × Unit)))) × ((List Int) × (Int × (Int × (Int × Unit))))
def r12same.L1.st : r12same.L1.D → AS := fun (a_3, b_3, i_2, kv, n6, n7) => ⟨([.undef, .undef, .rptr (.pair (.slice (.pair (.slice (.int .u64)) (.pair (.int .i64) (.pair (.int .i64) (.pair (.int .u64) .unit))))) .unit) a_3, .rptr (.pair (.slice (.pair (.slice (.int .u64)) (.pair (.int .i64) (.pair (.int .i64) (.pair (.int .u64) .unit))))) .unit) b_3, .undef, .d (.int .i64) i_2, .ptr (.new 6 0) 0 [] 0, .ptr (.new 7 0) 0 [] 0, .d (.int .i64) kv] ++ undN 70 []), [], (nilN 6 ([[.obj 0 false (.d (.pair (.slice (.int .u64)) (.pair (.int .i64) (.pair (.int .i64) (.pair (.int .u64) .unit)))) n6)], [.obj 0 false (.d (.pair (.slice (.int .u64)) (.pair (.int .i64) (.pair (.int .i64) (.pair (.int .u64) .unit)))) n7)]] ++ nilN 71 []))⟩
abbrev r12same.L1.Y0 := Unit
abbrev r12same.L1.X0 := Unit
def r12same.L1.ex0 : r12same.L1.X0 → Exit × AS := fun x => (.ret, ⟨(undN 4 ([.d .bool false] ++ undN 74 [])), [], (List.replicate 79 [])⟩)
abbrev r12same.L1.Y1 := Unit
abbrev r12same.L1.X1 := ((List ((List Int) × (Int × (Int × (Int × Unit))))) × Unit) × ((List ((List Int) × (Int × (Int × (Int × Unit))))) × Unit) × Int
def r12same.L1.ex1 : r12same.L1.X1 → Exit × AS := fun x => (.exit 2, ⟨([.undef, .undef, .rptr (.pair (.slice (.pair (.slice (.int .u64)) (.pair (.int .i64) (.pair (.int .i64) (.pair (.int .u64) .unit))))) .unit) x.1, .rptr (.pair (.slice (.pair (.slice (.int .u64)) (.pair (.int .i64) (.pair (.int .i64) (.pair (.int .u64) .unit))))) .unit) x.2.1, .undef, .d (.int .i64) x.2.2] ++ undN 73 []), [], (List.replicate 79 [])⟩)
abbrev r12same.L1.X := (r12same.L1.X0) ⊕ (r12same.L1.X1)
abbrev r12same.L1.Y := (r12same.L1.Y0) ⊕ (r12same.L1.Y1)
def r12same.L1.out : r12same.L1.X → Out (Exit × AS) := fun x => .br x.isLeft (.get x.getLeft? fun a => .ok (r12same.L1.ex0 a)) (.get x.getRight? fun b => .ok (r12same.L1.ex1 b))
def r12same.L1.add : r12same.L1.D → r12same.L1.Y → r12same.L1.X := fun (a_3, b_3, i_2, kv, n6, n7) y => match y with | .inl y => .inl y | .inr z => .inr ((a_3, b_3, i_2))
abbrev r12same.D := ((List ((List Int) × (Int × (Int × (Int × Unit))))) × Unit) × ((List ((List Int) × (Int × (Int × (Int × Unit))))) × Unit)
def r12same.st : r12same.D → List AVal × List Ent := fun (a, b) => ([.d (.pair (.slice (.pair (.slice (.int .u64)) (.pair (.int .i64) (.pair (.int .i64) (.pair (.int .u64) .unit))))) .unit) a, .d (.pair (.slice (.pair (.slice (.int .u64)) (.pair (.int .i64) (.pair (.int .i64) (.pair (.int .u64) .unit))))) .unit) b], [])
abbrev r12same.Y := Bool
abbrev r12same.X := Bool
def r12same.out : r12same.X → GRes := fun x => ⟨.d .bool x, [], []⟩
def r12same.add : r12same.D → r12same.Y → r12same.X := fun (a, b) y => y


def r12same.L1.Pre : r12same.L1.D → Prop := fun (a, b, i, j, x, z) => x.1.length ≤ 1000000000 ∧ x.1.length = z.1.length ∧ ∃ k : Nat, k ≤ x.1.length ∧ j = k
def r12same.L1.F : r12same.L1.D → r12same.L1.Y := fun (a, b, i, j, x, z) => if x.1.drop j.toNat = z.1.drop j.toNat then .inr () else .inl ()
def r12same.L0.Pre : r12same.L0.D → Prop := fun (a, b, i) => ShortK a ∧ a.1.length = b.1.length ∧ ∃ k : Nat, k ≤ a.1.length ∧ i = k
def r12same.L0.F : r12same.L0.D → r12same.L0.Y := fun (a, b, i) => if a.1.drop i.toNat = b.1.drop i.toNat then .inr () else .inl ()
def r12same.Pre : r12same.D → Prop := fun (a, b) => ShortK a
def r12same.F : r12same.D → r12same.Y := fun (a, b) => decide (a.1 = b.1)

noncomputable def r12same.G : Gam := gnil
noncomputable def r12same.L0.E : LEntry := LEntry.of r12same.L0.st r12same.L0.Pre (fun d => r12same.L0.add d (r12same.L0.F d)) r12same.L0.out
noncomputable def r12same.L0.call : r12same.L0.D → Option r12same.L0.X := fun d => r12same.L0.E.run (r12same.L0.st d)
noncomputable def r12same.L1.E : LEntry := LEntry.of r12same.L1.st r12same.L1.Pre (fun d => r12same.L1.add d (r12same.L1.F d)) r12same.L1.out
noncomputable def r12same.L1.call : r12same.L1.D → Option r12same.L1.X := fun d => r12same.L1.E.run (r12same.L1.st d)
noncomputable def r12same.an : Ann := {
  objs := [],
  loops := fun r => bif Nat.beq r 4 then { keep := [2, 3, 5], sites := [], frz := [], data := [], owns := [] } else bif Nat.beq r 11 then { keep := [2, 3, 5, 6, 7, 8], sites := [6, 7], frz := [], data := [], owns := [] } else { keep := [], sites := [], frz := [], data := [], owns := [] },
  outs := fun r b => bif Nat.beq r 4 then (bif b then { keep := [4], sites := [], frz := [], data := [], owns := [] } else { keep := [], sites := [], frz := [], data := [], owns := [] }) else bif Nat.beq r 11 then (bif b then { keep := [4], sites := [], frz := [], data := [], owns := [] } else { keep := [2, 3, 5], sites := [], frz := [], data := [], owns := [] }) else { keep := [], sites := [], frz := [], data := [], owns := [] },
  sums := fun r => bif Nat.beq r 4 then some r12same.L0.E else bif Nat.beq r 11 then some r12same.L1.E else none,
  owns := [],
  trim := [],
  res := [] }
theorem r12same.L0.inj : ∀ d d', r12same.L0.st d = r12same.L0.st d' → d = d' := fun (a_2, b_2, i) (a_2', b_2', i') hEq => by
  have e0 : a_2 = a_2' := rptr_inj (t := (.pair (.slice (.pair (.slice (.int .u64)) (.pair (.int .i64) (.pair (.int .i64) (.pair (.int .u64) .unit))))) .unit)) (congrArg (fun s : AS => (s.slot 2)) hEq)
  have e1 : b_2 = b_2' := rptr_inj (t := (.pair (.slice (.pair (.slice (.int .u64)) (.pair (.int .i64) (.pair (.int .i64) (.pair (.int .u64) .unit))))) .unit)) (congrArg (fun s : AS => (s.slot 3)) hEq)
  have e2 : i = i' := d_inj (t := (.int .i64)) (congrArg (fun s : AS => (s.slot 5)) hEq)
  rw [e0, e1, e2]
theorem r12same.L0.run {d : r12same.L0.D} (h : r12same.L0.Pre d) : r12same.L0.call d = some (r12same.L0.add d (r12same.L0.F d)) := LEntry.of_run r12same.L0.inj h
theorem r12same.L0.byRounds (μ : r12same.L0.D → Nat) (h : ∀ d, r12same.L0.Pre d → (∃ d', r12same.L0.Pre d' ∧ μ d' < μ d ∧ r12same.L0.add d' (r12same.L0.F d') = r12same.L0.add d (r12same.L0.F d) ∧ ∀ {R : Type} (kn : AS → Option R) (kx : Exit → AS → Option R), lround Tryz.prog r12same.G r12same.an 0 Tryz.f16 0 (r12same.L0.st d) kn kx = kn (r12same.L0.st d')) ∨ (∃ r, (r12same.L0.out (r12same.L0.add d (r12same.L0.F d))).eval = some r ∧ ∀ {R : Type} (kn : AS → Option R) (kx : Exit → AS → Option R), lround Tryz.prog r12same.G r12same.an 0 Tryz.f16 0 (r12same.L0.st d) kn kx = kx r.1 r.2)) : ∀ d, r12same.L0.Pre d → ∃ n, lrun Tryz.prog r12same.G r12same.an 0 Tryz.f16 0 n (r12same.L0.st d) (fun e s => some (e, s)) = (r12same.L0.out (r12same.L0.add d (r12same.L0.F d))).eval := lrun_of (F := fun d => r12same.L0.add d (r12same.L0.F d)) (out := r12same.L0.out) μ h
theorem r12same.L0.step {R : Type} (a_2 : ((List ((List Int) × (Int × (Int × (Int × Unit))))) × Unit)) (b_2 : ((List ((List Int) × (Int × (Int × (Int × Unit))))) × Unit)) (i : Int) (kn : AS → Option R) (kx : Exit → AS → Option R) : lround Tryz.prog r12same.G r12same.an 0 Tryz.f16 0 (r12same.L0.st (a_2, b_2, i)) kn kx =
  sel ((ilt i (((List.length a_2.1) : Nat) : Int))) (
   sel (inb i (((List.length a_2.1) : Nat) : Int)) (
   sel (inb i (((List.length b_2.1) : Nat) : Int)) (
   sel ((ine (((List.length (nth (.pair (.slice (.int .u64)) (.pair (.int .i64) (.pair (.int .i64) (.pair (.int .u64) .unit)))) a_2.1 (Int.toNat i)).1) : Nat) : Int) (((List.length (nth (.pair (.slice (.int .u64)) (.pair (.int .i64) (.pair (.int .i64) (.pair (.int .u64) .unit)))) b_2.1 (Int.toNat i)).1) : Nat) : Int))) (
    kx (r12same.L0.ex0 ()).1 (r12same.L0.ex0 ()).2) (
    sel ((ine (nth (.pair (.slice (.int .u64)) (.pair (.int .i64) (.pair (.int .i64) (.pair (.int .u64) .unit)))) a_2.1 (Int.toNat i)).2.1 (nth (.pair (.slice (.int .u64)) (.pair (.int .i64) (.pair (.int .i64) (.pair (.int .u64) .unit)))) b_2.1 (Int.toNat i)).2.1)) (
     kx (r12same.L0.ex0 ()).1 (r12same.L0.ex0 ()).2) (
     sel ((ine (nth (.pair (.slice (.int .u64)) (.pair (.int .i64) (.pair (.int .i64) (.pair (.int .u64) .unit)))) a_2.1 (Int.toNat i)).2.2.1 (nth (.pair (.slice (.int .u64)) (.pair (.int .i64) (.pair (.int .i64) (.pair (.int .u64) .unit)))) b_2.1 (Int.toNat i)).2.2.1)) (
      kx (r12same.L0.ex0 ()).1 (r12same.L0.ex0 ()).2) (
      sel ((ine (nth (.pair (.slice (.int .u64)) (.pair (.int .i64) (.pair (.int .i64) (.pair (.int .u64) .unit)))) a_2.1 (Int.toNat i)).2.2.2.1 (nth (.pair (.slice (.int .u64)) (.pair (.int .i64) (.pair (.int .i64) (.pair (.int .u64) .unit)))) b_2.1 (Int.toNat i)).2.2.2.1)) (
       kx (r12same.L0.ex0 ()).1 (r12same.L0.ex0 ()).2) (
       obind (r12same.L1.call (a_2, b_2, i, (0 : Int), (nth (.pair (.slice (.int .u64)) (.pair (.int .i64) (.pair (.int .i64) (.pair (.int .u64) .unit)))) a_2.1 (Int.toNat i)), (nth (.pair (.slice (.int .u64)) (.pair (.int .i64) (.pair (.int .i64) (.pair (.int .u64) .unit)))) b_2.1 (Int.toNat i)))) fun x1 =>
       sel (x1.isLeft) (
        obind (x1.getLeft?) fun a2 =>
        kx (r12same.L0.ex0 ()).1 (r12same.L0.ex0 ()).2) (
        obind (x1.getRight?) fun b3 =>
        kn (r12same.L0.st (b3.1, b3.2.1, (iadd .i64 b3.2.2 (1 : Int)))))))))) none) none) (
   kx (r12same.L0.ex1 ()).1 (r12same.L0.ex1 ()).2) := by kernel_rfl
theorem r12same.L1.inj : ∀ d d', r12same.L1.st d = r12same.L1.st d' → d = d' := fun (a_3, b_3, i_2, kv, n6, n7) (a_3', b_3', i_2', kv', n6', n7') hEq => by
  have e0 : a_3 = a_3' := rptr_inj (t := (.pair (.slice (.pair (.slice (.int .u64)) (.pair (.int .i64) (.pair (.int .i64) (.pair (.int .u64) .unit))))) .unit)) (congrArg (fun s : AS => (s.slot 2)) hEq)
  have e1 : b_3 = b_3' := rptr_inj (t := (.pair (.slice (.pair (.slice (.int .u64)) (.pair (.int .i64) (.pair (.int .i64) (.pair (.int .u64) .unit))))) .unit)) (congrArg (fun s : AS => (s.slot 3)) hEq)
  have e2 : i_2 = i_2' := d_inj (t := (.int .i64)) (congrArg (fun s : AS => (s.slot 5)) hEq)
  have e3 : kv = kv' := d_inj (t := (.int .i64)) (congrArg (fun s : AS => (s.slot 8)) hEq)
  have e4 : n6 = n6' := d_inj (t := (.pair (.slice (.int .u64)) (.pair (.int .i64) (.pair (.int .i64) (.pair (.int .u64) .unit))))) (congrArg (fun s : AS => (entC (s.ent (.new 6 0)))) hEq)
  have e5 : n7 = n7' := d_inj (t := (.pair (.slice (.int .u64)) (.pair (.int .i64) (.pair (.int .i64) (.pair (.int .u64) .unit))))) (congrArg (fun s : AS => (entC (s.ent (.new 7 0)))) hEq)
  rw [e0, e1, e2, e3, e4, e5]
theorem r12same.L1.run {d : r12same.L1.D} (h : r12same.L1.Pre d) : r12same.L1.call d = some (r12same.L1.add d (r12same.L1.F d)) := LEntry.of_run r12same.L1.inj h
theorem r12same.L1.byRounds (μ : r12same.L1.D → Nat) (h : ∀ d, r12same.L1.Pre d → (∃ d', r12same.L1.Pre d' ∧ μ d' < μ d ∧ r12same.L1.add d' (r12same.L1.F d') = r12same.L1.add d (r12same.L1.F d) ∧ ∀ {R : Type} (kn : AS → Option R) (kx : Exit → AS → Option R), lround Tryz.prog r12same.G r12same.an 0 Tryz.f16 1 (r12same.L1.st d) kn kx = kn (r12same.L1.st d')) ∨ (∃ r, (r12same.L1.out (r12same.L1.add d (r12same.L1.F d))).eval = some r ∧ ∀ {R : Type} (kn : AS → Option R) (kx : Exit → AS → Option R), lround Tryz.prog r12same.G r12same.an 0 Tryz.f16 1 (r12same.L1.st d) kn kx = kx r.1 r.2)) : ∀ d, r12same.L1.Pre d → ∃ n, lrun Tryz.prog r12same.G r12same.an 0 Tryz.f16 1 n (r12same.L1.st d) (fun e s => some (e, s)) = (r12same.L1.out (r12same.L1.add d (r12same.L1.F d))).eval := lrun_of (F := fun d => r12same.L1.add d (r12same.L1.F d)) (out := r12same.L1.out) μ h
theorem r12same.L1.step {R : Type} (a_3 : ((List ((List Int) × (Int × (Int × (Int × Unit))))) × Unit)) (b_3 : ((List ((List Int) × (Int × (Int × (Int × Unit))))) × Unit)) (i_2 : Int) (kv : Int) (n6 : ((List Int) × (Int × (Int × (Int × Unit))))) (n7 : ((List Int) × (Int × (Int × (Int × Unit))))) (kn : AS → Option R) (kx : Exit → AS → Option R) : lround Tryz.prog r12same.G r12same.an 0 Tryz.f16 1 (r12same.L1.st (a_3, b_3, i_2, kv, n6, n7)) kn kx =
  sel ((ilt kv (((List.length n6.1) : Nat) : Int))) (
   sel (inb kv (((List.length n6.1) : Nat) : Int)) (
   sel (inb kv (((List.length n7.1) : Nat) : Int)) (
   sel ((ine (nth (.int .u64) n6.1 (Int.toNat kv)) (nth (.int .u64) n7.1 (Int.toNat kv)))) (
    kx (r12same.L1.ex0 ()).1 (r12same.L1.ex0 ()).2) (
    kn (r12same.L1.st (a_3, b_3, i_2, (iadd .i64 kv (1 : Int)), n6, n7)))) none) none) (
   kx (r12same.L1.ex1 (a_3, b_3, i_2)).1 (r12same.L1.ex1 (a_3, b_3, i_2)).2) := by kernel_rfl
theorem r12same.eq {R : Type} (a : ((List ((List Int) × (Int × (Int × (Int × Unit))))) × Unit)) (b : ((List ((List Int) × (Int × (Int × (Int × Unit))))) × Unit)) (k : GRes → Option R) : arun Tryz.prog r12same.G r12same.an 0 Tryz.f16 (r12same.st (a, b)).1 (r12same.st (a, b)).2 k =
  sel ((ine (((List.length a.1) : Nat) : Int) (((List.length b.1) : Nat) : Int))) (
   k (r12same.out false)) (
   obind (r12same.L0.call (a, b, (0 : Int))) fun x4 =>
   sel (x4.isLeft) (
    obind (x4.getLeft?) fun a5 =>
    k (r12same.out false)) (
    obind (x4.getRight?) fun b6 =>
    k (r12same.out true))) := by kernel_rfl


theorem r12same.L1.ok : ∀ d, r12same.L1.Pre d → ∃ n, lrun Tryz.prog r12same.G r12same.an 0 Tryz.f16 1 n (r12same.L1.st d) (fun e s => some (e, s)) = (r12same.L1.out (r12same.L1.add d (r12same.L1.F d))).eval := by
  refine r12same.L1.byRounds (fun (a, b, i, j, x, z) => x.1.length - j.toNat) ?_
  rintro ⟨a, b, i, j, x, z⟩ ⟨hl, hab, k, hk, rfl⟩
  have hl : x.1.length ≤ 1000000000 := hl
  have hab : x.1.length = z.1.length := hab
  have hk : k ≤ x.1.length := hk
  by_cases h : k < x.1.length
  · have h2 : k < z.1.length := by omega
    have n1 : nth (.int .u64) x.1 k = x.1[k] := nth_lt (t := .int .u64) h
    have n2 : nth (.int .u64) z.1 k = z.1[k] := nth_lt (t := .int .u64) h2
    have hd : (x.1.drop k = z.1.drop k) = (x.1[k] = z.1[k] ∧ x.1.drop (k + 1) = z.1.drop (k + 1)) := by rw [List.drop_eq_getElem_cons h, List.drop_eq_getElem_cons h2, List.cons.injEq]
    by_cases hx : x.1[k] = z.1[k]
    · left
      refine ⟨(a, b, i, ((k + 1 : Nat) : Int), x, z), ⟨hl, hab, k + 1, by omega, rfl⟩, by simp only [Int.toNat_natCast]; omega, ?_, fun kn kx => ?_⟩
      · simp only [r12same.L1.add, r12same.L1.F, Int.toNat_natCast, hd, hx, true_and]
      · rw [r12same.L1.step, ilt_true (by omega), inb_true (by omega) (by omega), inb_true (by omega) (by omega), Int.toNat_natCast, n1, n2, ine_false hx, N.aNL (by omega)]
        rfl
    · right
      refine ⟨r12same.L1.ex0 (), ?_, fun kn kx => ?_⟩
      · simp only [r12same.L1.add, r12same.L1.F, Int.toNat_natCast, hd, hx, false_and, if_false]
        rfl
      · rw [r12same.L1.step, ilt_true (by omega), inb_true (by omega) (by omega), inb_true (by omega) (by omega), Int.toNat_natCast, n1, n2, ine_true hx]
        rfl
  · right
    obtain rfl : k = x.1.length := by omega
    refine ⟨r12same.L1.ex1 (a, b, i), ?_, fun kn kx => ?_⟩
    · simp only [r12same.L1.add, r12same.L1.F, Int.toNat_natCast, List.drop_length]
      rw [hab, List.drop_length, if_pos rfl]
      rfl
    · rw [r12same.L1.step, ilt_false (by omega), sel_false]
theorem r12same.L0.ok : ∀ d, r12same.L0.Pre d → ∃ n, lrun Tryz.prog r12same.G r12same.an 0 Tryz.f16 0 n (r12same.L0.st d) (fun e s => some (e, s)) = (r12same.L0.out (r12same.L0.add d (r12same.L0.F d))).eval := by
  refine r12same.L0.byRounds (fun (a, b, i) => a.1.length - i.toNat) ?_
  rintro ⟨a, b, i⟩ ⟨⟨hl, hs⟩, hab, k, hk, rfl⟩
  have hl : a.1.length ≤ 1000000000 := hl
  have hab : a.1.length = b.1.length := hab
  have hk : k ≤ a.1.length := hk
  by_cases h : k < a.1.length
  · have h2 : k < b.1.length := by omega
    have n1 : nth (.pair (.slice (.int .u64)) (.pair (.int .i64) (.pair (.int .i64) (.pair (.int .u64) .unit)))) a.1 k = a.1[k] := nth_lt (t := (.pair (.slice (.int .u64)) (.pair (.int .i64) (.pair (.int .i64) (.pair (.int .u64) .unit))))) h
    have n2 : nth (.pair (.slice (.int .u64)) (.pair (.int .i64) (.pair (.int .i64) (.pair (.int .u64) .unit)))) b.1 k = b.1[k] := nth_lt (t := (.pair (.slice (.int .u64)) (.pair (.int .i64) (.pair (.int .i64) (.pair (.int .u64) .unit))))) h2
    have hd : (a.1.drop k = b.1.drop k) = (a.1[k] = b.1[k] ∧ a.1.drop (k + 1) = b.1.drop (k + 1)) := by rw [List.drop_eq_getElem_cons h, List.drop_eq_getElem_cons h2, List.cons.injEq]
    have hsk := hs _ (List.getElem_mem h)
    have step : ∀ {R : Type} (kn : AS → Option R) (kx : Exit → AS → Option R), lround Tryz.prog r12same.G r12same.an 0 Tryz.f16 0 (r12same.L0.st (a, b, (k : Int))) kn kx = if a.1[k] = b.1[k] then kn (r12same.L0.st (a, b, ((k + 1 : Nat) : Int))) else kx (r12same.L0.ex0 ()).1 (r12same.L0.ex0 ()).2 := by
      intro R kn kx
      rw [r12same.L0.step, ilt_true (by omega), inb_true (by omega) (by omega), inb_true (by omega) (by omega), Int.toNat_natCast, n1, n2]
      obtain ⟨⟨k1, a1, d1, s1, u1⟩, e1⟩ : ∃ x, a.1[k] = x := ⟨_, rfl⟩
      obtain ⟨⟨k2, a2, d2, s2, u2⟩, e2⟩ : ∃ x, b.1[k] = x := ⟨_, rfl⟩
      rw [e1] at hsk ⊢
      rw [e2]
      have hsk : k1.length ≤ 1000000000 := hsk
      simp only [sel_true]
      by_cases q1 : k1.length = k2.length
      · by_cases q2 : a1 = a2
        · by_cases q3 : d1 = d2
          · by_cases q4 : s1 = s2
            · rw [ine_false (by omega), ine_false q2, ine_false q3, ine_false q4, r12same.L1.run (d := (a, b, (k : Int), 0, (k1, a1, d1, s1, u1), (k2, a2, d2, s2, u2))) ⟨hsk, q1, 0, Nat.zero_le _, rfl⟩]
              simp only [sel_false, obind_some, r12same.L1.add, r12same.L1.F, Int.toNat_zero, List.drop_zero]
              by_cases q5 : k1 = k2
              · rw [if_pos q5, if_pos (by rw [q5, q2, q3, q4])]
                simp only [Sum.isLeft_inr, Sum.getRight?_inr, sel_false, obind_some]
                rw [N.aNL (by omega)]
              · rw [if_neg q5, if_neg (by rintro ⟨⟩; exact q5 rfl)]
                rfl
            · rw [ine_false (by omega), ine_false q2, ine_false q3, ine_true q4, if_neg (by rintro ⟨⟩; exact q4 rfl)]; rfl
          · rw [ine_false (by omega), ine_false q2, ine_true q3, if_neg (by rintro ⟨⟩; exact q3 rfl)]; rfl
        · rw [ine_false (by omega), ine_true q2, if_neg (by rintro ⟨⟩; exact q2 rfl)]; rfl
      · rw [ine_true (by omega), if_neg (by rintro ⟨⟩; exact q1 rfl)]; rfl
    by_cases hx : a.1[k] = b.1[k]
    · left
      refine ⟨(a, b, ((k + 1 : Nat) : Int)), ⟨⟨hl, hs⟩, hab, k + 1, by omega, rfl⟩, by simp only [Int.toNat_natCast]; omega, ?_, fun kn kx => ?_⟩
      · simp only [r12same.L0.add, r12same.L0.F, Int.toNat_natCast, hd, hx, true_and]
      · rw [step, if_pos hx]
    · right
      refine ⟨r12same.L0.ex0 (), ?_, fun kn kx => ?_⟩
      · simp only [r12same.L0.add, r12same.L0.F, Int.toNat_natCast, hd, hx, false_and, if_false]
        rfl
      · rw [step, if_neg hx]
  · right
    obtain rfl : k = a.1.length := by omega
    refine ⟨r12same.L0.ex1 (), ?_, fun kn kx => ?_⟩
    · simp only [r12same.L0.add, r12same.L0.F, Int.toNat_natCast, List.drop_length]
      rw [hab, List.drop_length, if_pos rfl]
      rfl
    · rw [r12same.L0.step, ilt_false (by omega), sel_false]
theorem r12same.ok : ∀ d, r12same.Pre d → arun Tryz.prog r12same.G r12same.an 0 Tryz.f16 (r12same.st d).1 (r12same.st d).2 some = some (r12same.out (r12same.add d (r12same.F d))) := by
  rintro ⟨a, b⟩ hl
  have hl : ShortK a := hl
  have hl1 := hl.1
  rw [r12same.eq]
  simp only [r12same.add, r12same.F]
  by_cases h : a.1.length = b.1.length
  · rw [ine_false (by omega), sel_false, r12same.L0.run (d := (a, b, 0)) ⟨hl, h, 0, Nat.zero_le _, rfl⟩]
    simp only [obind_some, r12same.L0.add, r12same.L0.F, Int.toNat_zero, List.drop_zero]
    by_cases hx : a.1 = b.1
    · rw [if_pos hx, dec_true hx]; rfl
    · rw [if_neg hx, dec_false hx]; rfl
  · rw [ine_true (by omega), dec_false (fun x => h (by rw [x]))]; rfl

theorem r12same.inj : ∀ d d', r12same.st d = r12same.st d' → d = d' := fun (a, b) (a', b') hEq => by
  have e0 : a = a' := d_inj (t := (.pair (.slice (.pair (.slice (.int .u64)) (.pair (.int .i64) (.pair (.int .i64) (.pair (.int .u64) .unit))))) .unit)) (congrArg (fun s : List AVal × List Ent => (s.1.getD 0 .undef)) hEq)
  have e1 : b = b' := d_inj (t := (.pair (.slice (.pair (.slice (.int .u64)) (.pair (.int .i64) (.pair (.int .i64) (.pair (.int .u64) .unit))))) .unit)) (congrArg (fun s : List AVal × List Ent => (s.1.getD 1 .undef)) hEq)
  rw [e0, e1]
noncomputable def r12same.E : Entry := Entry.of [some (.pair (.slice (.pair (.slice (.int .u64)) (.pair (.int .i64) (.pair (.int .i64) (.pair (.int .u64) .unit))))) .unit), some (.pair (.slice (.pair (.slice (.int .u64)) (.pair (.int .i64) (.pair (.int .i64) (.pair (.int .u64) .unit))))) .unit)] r12same.st r12same.Pre (fun d => r12same.add d (r12same.F d)) r12same.out
noncomputable def r12same.call : r12same.D → Option r12same.X := fun d => r12same.E.run (r12same.st d).1 (r12same.st d).2
theorem r12same.run {d : r12same.D} (h : r12same.Pre d) : r12same.call d = some (r12same.add d (r12same.F d)) := Entry.of_run r12same.inj h
theorem r12same.does : Does Tryz.prog 16 r12same.E := Does.of (by kernel_rfl) (show Sound _ r12same.G from Sound.nil _) (by kernel_rfl) (by kernel_rfl) (by kernel_rfl) (LOk.fn 2 (by kernel_rfl) (And.intro (LDo.of (by kernel_rfl) r12same.L0.ok) (And.intro (LDo.of (by kernel_rfl) r12same.L1.ok) trivial))) r12same.ok

end Go.Ab
namespace Go.Ab
open Go.Proofs
set_option maxRecDepth 100000
set_option linter.unusedVariables false
set_option linter.unusedSimpArgs false

/-! ### corsned/corsnedlaw12.LockTells -/
abbrev locktells.D := ((List ((List Int) × (Int × (Int × (Int × Unit))))) × Unit) × ((List ((List Int) × (Int × (Int × (Int × Unit))))) × Unit) × (List Int)
def locktells.st : locktells.D → List AVal × List Ent := fun (l, o, b) => ([.d (.pair (.slice (.pair (.slice (.int .u64)) (.pair (.int .i64) (.pair (.int .i64) (.pair (.int .u64) .unit))))) .unit) l, .d (.pair (.slice (.pair (.slice (.int .u64)) (.pair (.int .i64) (.pair (.int .i64) (.pair (.int .u64) .unit))))) .unit) o, .d (.slice (.int .u8)) b], [])
abbrev locktells.Y := Bool
abbrev locktells.X := Bool
def locktells.out : locktells.X → GRes := fun x => ⟨.d .bool x, [], []⟩
def locktells.add : locktells.D → locktells.Y → locktells.X := fun (l, o, b) y => y


theorem bqq' (b : Bool) : Ty.beq .bool b b = true := by cases b <;> rfl
theorem few_short {l : Lk} (hf : fewL l = true) : l.1.length ≤ 6 ∧ ShortK l := by
  unfold fewL fewKeys at hf
  rw [Bool.and_eq_true, decide_eq_true_eq, List.all_eq_true] at hf
  refine ⟨hf.2, by have := hf.2; omega, fun x hx => ?_⟩
  have := hf.1 x (by rw [List.take_of_length_le (by have := hf.2; omega)]; exact hx)
  rw [decide_eq_true_eq] at this
  omega
theorem readL_short {b : List Int} : ShortK (readL b).1 := by
  cases hr : (readL b).2
  · rw [readL_no hr]
    exact ⟨Nat.zero_le _, fun x hx => (by cases hx)⟩
  · obtain ⟨x, hx, _, he, _⟩ := readL_is hr
    rw [he]
    have hk := lkOk_k hx
    exact ⟨by show x.1.length ≤ _; omega, fun y hy => by have := (hk.1 y hy).len; omega⟩
def locktells.Pre : locktells.D → Prop := fun (l, o, b) => LkU l ∧ LkU o ∧ Bytes b
def locktells.F : locktells.D → locktells.Y := fun _ => true

noncomputable def locktells.G : Gam := gcons 9 anyArgs small12.E (gcons 10 anyArgs lfew.E (gcons 11 anyArgs lread.E (gcons 12 anyArgs r12read.E (gcons 13 anyArgs lright.E (gcons 14 anyArgs r12right.E (gcons 15 anyArgs lsame.E (gcons 16 anyArgs r12same.E (gcons 17 anyArgs lbytes.E (gcons 18 anyArgs r12bytes.E (gcons 19 anyArgs lsum.E (gcons 20 anyArgs r12sum.E (gnil))))))))))))
noncomputable def locktells.an : Ann := {
  objs := [],
  loops := fun r => { keep := [], sites := [], frz := [], data := [], owns := [] },
  outs := fun r b => { keep := [], sites := [], frz := [], data := [], owns := [] },
  sums := fun r => none,
  owns := [],
  trim := [],
  res := [] }
theorem locktells.eq {R : Type} (l : ((List ((List Int) × (Int × (Int × (Int × Unit))))) × Unit)) (o : ((List ((List Int) × (Int × (Int × (Int × Unit))))) × Unit)) (b : (List Int)) (k : GRes → Option R) : arun Tryz.prog locktells.G locktells.an 0 Tryz.f3 (locktells.st (l, o, b)).1 (locktells.st (l, o, b)).2 k =
  obind (small12.call ()) fun x4 =>
  obind (lfew.call l) fun x11 =>
  sel ((!x11)) (
   k (locktells.out x4)) (
   obind (lfew.call o) fun x12 =>
   sel ((!x12)) (
    k (locktells.out x4)) (
    sel ((igt (((List.length b) : Nat) : Int) (1000 : Int))) (
     k (locktells.out x4)) (
     obind (lread.call b) fun x16 =>
     obind (r12read.call b) fun x20 =>
     sel (x4) (
      obind (lright.call l) fun x30 =>
      obind (r12right.call l) fun x31 =>
      sel ((Ty.beq .bool x30 x31)) (
       obind (lsame.call (l, o)) fun x32 =>
       obind (r12same.call (l, o)) fun x33 =>
       sel ((Ty.beq .bool x32 x33)) (
        obind (lbytes.call l) fun x34 =>
        obind (r12bytes.call l) fun x35 =>
        sel ((seq (strOfBytes x34) (strOfBytes x35))) (
         obind (r12same.call (x16.1, x20.1)) fun x36 =>
         sel (x36) (
          sel ((Ty.beq .bool x16.2 x20.2)) (
           obind (lsum.call l) fun x37 =>
           obind (r12sum.call l) fun x38 =>
           k (locktells.out (Ty.beq (.arr 32 (.int .u8)) x37 x38))) (
           k (locktells.out false))) (
          k (locktells.out false))) (
         k (locktells.out false))) (
        k (locktells.out false))) (
       k (locktells.out false))) (
      k (locktells.out false))))) := by kernel_rfl


theorem locktells.ok : ∀ d, locktells.Pre d → arun Tryz.prog locktells.G locktells.an 0 Tryz.f3 (locktells.st d).1 (locktells.st d).2 some = some (locktells.out (locktells.add d (locktells.F d))) := by
  rintro ⟨l, o, b⟩ ⟨hl, ho, hb⟩
  have hl : LkU l := hl
  have ho : LkU o := ho
  have hb : Bytes b := hb
  rw [locktells.eq, small12.run (d := ()) trivial, lfew.run (d := l) trivial, lfew.run (d := o) trivial]
  simp only [obind_some, small12.add, small12.F, lfew.add, lfew.F, locktells.add, locktells.F]
  cases hf : fewL l
  · rfl
  cases hg : fewL o
  · rfl
  by_cases hk : b.length > 1000
  · rw [igt_true (by omega)]; rfl
  have hb1 : b.length ≤ 1000000000 := by omega
  have s1 := few_short hf
  have s2 := few_short hg
  have l9 : l.1.length ≤ 1000000000 := by omega
  rw [igt_false (by omega), lread.run (d := b) ⟨hb, hb1⟩, r12read.run (d := b) ⟨hb, hb1⟩, lright.run (d := l) ⟨hl, l9⟩, r12right.run (d := l) hl, lsame.run (d := (l, o)) s1.2, r12same.run (d := (l, o)) s1.2, lbytes.run (d := l) ⟨hl, l9⟩, r12bytes.run (d := l) hl, lsum.run (d := l) ⟨hl, l9⟩, r12sum.run (d := l) hl]
  simp only [Bool.not_true, sel_false, sel_true, obind_some, lread.add, lread.F, r12read.add, r12read.F, lright.add, lright.F, r12right.add, r12right.F, bqq', lsame.add, lsame.F, r12same.add, r12same.F, lbytes.add, lbytes.F, r12bytes.add, r12bytes.F, seq_same, lsum.add, lsum.F, r12sum.add, r12sum.F]
  rw [r12same.run (d := ((readL b).1, (readL b).1)) readL_short]
  simp only [obind_some, r12same.add, r12same.F, decide_true, sel_true, beq32]

theorem locktells.inj : ∀ d d', locktells.st d = locktells.st d' → d = d' := fun (l, o, b) (l', o', b') hEq => by
  have e0 : l = l' := d_inj (t := (.pair (.slice (.pair (.slice (.int .u64)) (.pair (.int .i64) (.pair (.int .i64) (.pair (.int .u64) .unit))))) .unit)) (congrArg (fun s : List AVal × List Ent => (s.1.getD 0 .undef)) hEq)
  have e1 : o = o' := d_inj (t := (.pair (.slice (.pair (.slice (.int .u64)) (.pair (.int .i64) (.pair (.int .i64) (.pair (.int .u64) .unit))))) .unit)) (congrArg (fun s : List AVal × List Ent => (s.1.getD 1 .undef)) hEq)
  have e2 : b = b' := d_inj (t := (.slice (.int .u8))) (congrArg (fun s : List AVal × List Ent => (s.1.getD 2 .undef)) hEq)
  rw [e0, e1, e2]
noncomputable def locktells.E : Entry := Entry.of [some (.pair (.slice (.pair (.slice (.int .u64)) (.pair (.int .i64) (.pair (.int .i64) (.pair (.int .u64) .unit))))) .unit), some (.pair (.slice (.pair (.slice (.int .u64)) (.pair (.int .i64) (.pair (.int .i64) (.pair (.int .u64) .unit))))) .unit), some (.slice (.int .u8))] locktells.st locktells.Pre (fun d => locktells.add d (locktells.F d)) locktells.out
noncomputable def locktells.call : locktells.D → Option locktells.X := fun d => locktells.E.run (locktells.st d).1 (locktells.st d).2
theorem locktells.run {d : locktells.D} (h : locktells.Pre d) : locktells.call d = some (locktells.add d (locktells.F d)) := Entry.of_run locktells.inj h
theorem locktells.does : Does Tryz.prog 3 locktells.E := Does.of (by kernel_rfl) (show Sound _ locktells.G from Sound.cons small12.does (Sound.cons lfew.does (Sound.cons lread.does (Sound.cons r12read.does (Sound.cons lright.does (Sound.cons r12right.does (Sound.cons lsame.does (Sound.cons r12same.does (Sound.cons lbytes.does (Sound.cons r12bytes.does (Sound.cons lsum.does (Sound.cons r12sum.does (Sound.nil _))))))))))))) (by kernel_rfl) (by kernel_rfl) (by kernel_rfl) (LOk.fn 0 (by kernel_rfl) trivial) locktells.ok

end Go.Ab
