/-
  Made by a program of mine (wip/gen), and by hand.
-/
import Derived.Test.YtglpcfdjdabdnaaLk3
import Derived.Test.YtglpcfdjdabdnaaCo2
namespace Go.Ab
open Go.Proofs
set_option maxRecDepth 100000
set_option linter.unusedVariables false
set_option linter.unusedSimpArgs false

/-! ### corsned/corsnedlaw12.few -/
abbrev lfew.L0.D := ((List ((List Int) × (Int × (Int × (Int × Unit))))) × Unit) × Int
def lfew.L0.st : lfew.L0.D → AS := fun (l_2, i) => ⟨([.undef, .rptr (.pair (.slice (.pair (.slice (.int .u64)) (.pair (.int .i64) (.pair (.int .i64) (.pair (.int .u64) .unit))))) .unit) l_2, .undef, .d (.int .i64) i] ++ undN 23 []), [], (List.replicate 27 [])⟩
abbrev lfew.L0.Y0 := Unit
abbrev lfew.L0.X0 := Unit
def lfew.L0.ex0 : lfew.L0.X0 → Exit × AS := fun x => (.ret, ⟨([.undef, .undef, .d .bool false] ++ undN 24 []), [], (List.replicate 27 [])⟩)
abbrev lfew.L0.Y1 := Unit
abbrev lfew.L0.X1 := ((List ((List Int) × (Int × (Int × (Int × Unit))))) × Unit)
def lfew.L0.ex1 : lfew.L0.X1 → Exit × AS := fun x => (.exit 0, ⟨([.undef, .rptr (.pair (.slice (.pair (.slice (.int .u64)) (.pair (.int .i64) (.pair (.int .i64) (.pair (.int .u64) .unit))))) .unit) x] ++ undN 25 []), [], (List.replicate 27 [])⟩)
abbrev lfew.L0.X := (lfew.L0.X0) ⊕ (lfew.L0.X1)
abbrev lfew.L0.Y := (lfew.L0.Y0) ⊕ (lfew.L0.Y1)
def lfew.L0.out : lfew.L0.X → Out (Exit × AS) := fun x => .br x.isLeft (.get x.getLeft? fun a => .ok (lfew.L0.ex0 a)) (.get x.getRight? fun b => .ok (lfew.L0.ex1 b))
def lfew.L0.add : lfew.L0.D → lfew.L0.Y → lfew.L0.X := fun (l_2, i) y => match y with | .inl y => .inl y | .inr z => .inr (l_2)
abbrev lfew.D := ((List ((List Int) × (Int × (Int × (Int × Unit))))) × Unit)
def lfew.st : lfew.D → List AVal × List Ent := fun l => ([.d (.pair (.slice (.pair (.slice (.int .u64)) (.pair (.int .i64) (.pair (.int .i64) (.pair (.int .u64) .unit))))) .unit) l], [])
abbrev lfew.Y := Bool
abbrev lfew.X := Bool
def lfew.out : lfew.X → GRes := fun x => ⟨.d .bool x, [], []⟩
def lfew.add : lfew.D → lfew.Y → lfew.X := fun l y => y


def fewKeys (bs : List Brn) : Bool := bs.all fun b => decide (b.1.length ≤ 20)
def fewL (l : Lk) : Bool := fewKeys (l.1.take 7) && decide (l.1.length ≤ 6)
def lfew.L0.Pre : lfew.L0.D → Prop := fun (l, i) => ∃ k : Nat, k ≤ l.1.length ∧ k ≤ 7 ∧ i = k
def lfew.L0.F : lfew.L0.D → lfew.L0.Y := fun (l, i) => if fewKeys ((l.1.take 7).drop i.toNat) then .inr () else .inl ()
def lfew.Pre : lfew.D → Prop := fun _ => True
def lfew.F : lfew.D → lfew.Y := fun l => fewL l

noncomputable def lfew.G : Gam := gnil
noncomputable def lfew.L0.E : LEntry := LEntry.of lfew.L0.st lfew.L0.Pre (fun d => lfew.L0.add d (lfew.L0.F d)) lfew.L0.out
noncomputable def lfew.L0.call : lfew.L0.D → Option lfew.L0.X := fun d => lfew.L0.E.run (lfew.L0.st d)
noncomputable def lfew.an : Ann := {
  objs := [],
  loops := fun r => bif Nat.beq r 2 then { keep := [1, 3], sites := [], frz := [], data := [], owns := [] } else { keep := [], sites := [], frz := [], data := [], owns := [] },
  outs := fun r b => bif Nat.beq r 2 then (bif b then { keep := [2], sites := [], frz := [], data := [], owns := [] } else { keep := [1], sites := [], frz := [], data := [], owns := [] }) else { keep := [], sites := [], frz := [], data := [], owns := [] },
  sums := fun r => bif Nat.beq r 2 then some lfew.L0.E else none,
  owns := [],
  trim := [],
  res := [] }
theorem lfew.L0.inj : ∀ d d', lfew.L0.st d = lfew.L0.st d' → d = d' := fun (l_2, i) (l_2', i') hEq => by
  have e0 : l_2 = l_2' := rptr_inj (t := (.pair (.slice (.pair (.slice (.int .u64)) (.pair (.int .i64) (.pair (.int .i64) (.pair (.int .u64) .unit))))) .unit)) (congrArg (fun s : AS => (s.slot 1)) hEq)
  have e1 : i = i' := d_inj (t := (.int .i64)) (congrArg (fun s : AS => (s.slot 3)) hEq)
  rw [e0, e1]
theorem lfew.L0.run {d : lfew.L0.D} (h : lfew.L0.Pre d) : lfew.L0.call d = some (lfew.L0.add d (lfew.L0.F d)) := LEntry.of_run lfew.L0.inj h
theorem lfew.L0.byRounds (μ : lfew.L0.D → Nat) (h : ∀ d, lfew.L0.Pre d → (∃ d', lfew.L0.Pre d' ∧ μ d' < μ d ∧ lfew.L0.add d' (lfew.L0.F d') = lfew.L0.add d (lfew.L0.F d) ∧ ∀ {R : Type} (kn : AS → Option R) (kx : Exit → AS → Option R), lround Try.prog lfew.G lfew.an 0 Try.f9 0 (lfew.L0.st d) kn kx = kn (lfew.L0.st d')) ∨ (∃ r, (lfew.L0.out (lfew.L0.add d (lfew.L0.F d))).eval = some r ∧ ∀ {R : Type} (kn : AS → Option R) (kx : Exit → AS → Option R), lround Try.prog lfew.G lfew.an 0 Try.f9 0 (lfew.L0.st d) kn kx = kx r.1 r.2)) : ∀ d, lfew.L0.Pre d → ∃ n, lrun Try.prog lfew.G lfew.an 0 Try.f9 0 n (lfew.L0.st d) (fun e s => some (e, s)) = (lfew.L0.out (lfew.L0.add d (lfew.L0.F d))).eval := lrun_of (F := fun d => lfew.L0.add d (lfew.L0.F d)) (out := lfew.L0.out) μ h
theorem lfew.L0.step {R : Type} (l_2 : ((List ((List Int) × (Int × (Int × (Int × Unit))))) × Unit)) (i : Int) (kn : AS → Option R) (kx : Exit → AS → Option R) : lround Try.prog lfew.G lfew.an 0 Try.f9 0 (lfew.L0.st (l_2, i)) kn kx =
  sel ((ilt i (((List.length l_2.1) : Nat) : Int))) (
   sel ((ilt i (7 : Int))) (
    sel (inb i (((List.length l_2.1) : Nat) : Int)) (
    sel ((igt (((List.length (nth (.pair (.slice (.int .u64)) (.pair (.int .i64) (.pair (.int .i64) (.pair (.int .u64) .unit)))) l_2.1 (Int.toNat i)).1) : Nat) : Int) (20 : Int))) (
     kx (lfew.L0.ex0 ()).1 (lfew.L0.ex0 ()).2) (
     kn (lfew.L0.st (l_2, (iadd .i64 i (1 : Int)))))) none) (
    kx (lfew.L0.ex1 l_2).1 (lfew.L0.ex1 l_2).2)) (
   kx (lfew.L0.ex1 l_2).1 (lfew.L0.ex1 l_2).2) := by kernel_rfl
theorem lfew.eq {R : Type} (l : ((List ((List Int) × (Int × (Int × (Int × Unit))))) × Unit)) (k : GRes → Option R) : arun Try.prog lfew.G lfew.an 0 Try.f9 (lfew.st l).1 (lfew.st l).2 k =
  obind (lfew.L0.call (l, (0 : Int))) fun x1 =>
  sel (x1.isLeft) (
   obind (x1.getLeft?) fun a2 =>
   k (lfew.out false)) (
   obind (x1.getRight?) fun b3 =>
   k (lfew.out (ile (((List.length b3.1) : Nat) : Int) (6 : Int)))) := by kernel_rfl


theorem lfew.L0.ok : ∀ d, lfew.L0.Pre d → ∃ n, lrun Try.prog lfew.G lfew.an 0 Try.f9 0 n (lfew.L0.st d) (fun e s => some (e, s)) = (lfew.L0.out (lfew.L0.add d (lfew.L0.F d))).eval := by
  refine lfew.L0.byRounds (fun (l, i) => 7 - i.toNat) ?_
  rintro ⟨l, i⟩ ⟨k, hk, hk7, rfl⟩
  have hk : k ≤ l.1.length := hk
  have hk7 : k ≤ 7 := hk7
  by_cases h : k < l.1.length ∧ k < 7
  · obtain ⟨h, h7⟩ := h
    have ht : k < (l.1.take 7).length := by rw [List.length_take]; omega
    have n1 : nth (.pair (.slice (.int .u64)) (.pair (.int .i64) (.pair (.int .i64) (.pair (.int .u64) .unit)))) l.1 k = l.1[k] := nth_lt (t := (.pair (.slice (.int .u64)) (.pair (.int .i64) (.pair (.int .i64) (.pair (.int .u64) .unit))))) h
    have hg : (l.1.take 7)[k] = l.1[k] := List.getElem_take
    have hd : fewKeys ((l.1.take 7).drop k) = (decide (l.1[k].1.length ≤ 20) && fewKeys ((l.1.take 7).drop (k + 1))) := by
      unfold fewKeys
      rw [List.drop_eq_getElem_cons ht, List.all_cons, hg]
    have step : ∀ {R : Type} (kn : AS → Option R) (kx : Exit → AS → Option R), lround Try.prog lfew.G lfew.an 0 Try.f9 0 (lfew.L0.st (l, (k : Int))) kn kx = sel (decide (l.1[k].1.length ≤ 20)) (kn (lfew.L0.st (l, ((k + 1 : Nat) : Int)))) (kx (lfew.L0.ex0 ()).1 (lfew.L0.ex0 ()).2) := by
      intro R kn kx
      rw [lfew.L0.step, ilt_true (by omega), ilt_true (by omega), inb_true (by omega) (by omega), Int.toNat_natCast, n1, N.aNL (by omega)]
      simp only [sel_true]
      by_cases hc : l.1[k].1.length ≤ 20
      · rw [igt_false (by omega), dec_true hc]; rfl
      · rw [igt_true (by omega), dec_false hc]; rfl
    cases hp : decide (l.1[k].1.length ≤ 20)
    · right
      refine ⟨lfew.L0.ex0 (), ?_, fun kn kx => ?_⟩
      · simp only [lfew.L0.add, lfew.L0.F, Int.toNat_natCast, hd, hp, Bool.false_and, Bool.false_eq_true, if_false]
        rfl
      · rw [step, hp, sel_false]
    · left
      refine ⟨(l, ((k + 1 : Nat) : Int)), ⟨k + 1, by omega, by omega, rfl⟩, by simp only [Int.toNat_natCast]; omega, ?_, fun kn kx => ?_⟩
      · simp only [lfew.L0.add, lfew.L0.F, Int.toNat_natCast, hd, hp, Bool.true_and]
      · rw [step, hp, sel_true]
  · right
    have ht : (l.1.take 7).length ≤ k := by rw [List.length_take]; omega
    refine ⟨lfew.L0.ex1 l, ?_, fun kn kx => ?_⟩
    · simp only [lfew.L0.add, lfew.L0.F, Int.toNat_natCast, List.drop_of_length_le ht]
      rfl
    · rw [lfew.L0.step]
      by_cases h1 : k < l.1.length
      · rw [ilt_true (by omega), ilt_false (by omega)]; rfl
      · rw [ilt_false (by omega)]; rfl
theorem lfew.ok : ∀ d, lfew.Pre d → arun Try.prog lfew.G lfew.an 0 Try.f9 (lfew.st d).1 (lfew.st d).2 some = some (lfew.out (lfew.add d (lfew.F d))) := by
  intro l _
  rw [lfew.eq, lfew.L0.run (d := (l, 0)) ⟨0, by omega, by omega, rfl⟩]
  simp only [obind_some, lfew.L0.add, lfew.L0.F, Int.toNat_zero, List.drop_zero, lfew.add, lfew.F, fewL]
  cases fewKeys (l.1.take 7)
  · rfl
  · simp only [if_true, Bool.true_and]
    show some (lfew.out (ile _ _)) = _
    by_cases h : l.1.length ≤ 6
    · rw [ile_true (by omega), dec_true h]
    · rw [ile_false (by omega), dec_false h]

theorem lfew.inj : ∀ d d', lfew.st d = lfew.st d' → d = d' := fun l l' hEq => by
  have e0 : l = l' := d_inj (t := (.pair (.slice (.pair (.slice (.int .u64)) (.pair (.int .i64) (.pair (.int .i64) (.pair (.int .u64) .unit))))) .unit)) (congrArg (fun s : List AVal × List Ent => (s.1.getD 0 .undef)) hEq)
  rw [e0]
noncomputable def lfew.E : Entry := Entry.of [some (.pair (.slice (.pair (.slice (.int .u64)) (.pair (.int .i64) (.pair (.int .i64) (.pair (.int .u64) .unit))))) .unit)] lfew.st lfew.Pre (fun d => lfew.add d (lfew.F d)) lfew.out
noncomputable def lfew.call : lfew.D → Option lfew.X := fun d => lfew.E.run (lfew.st d).1 (lfew.st d).2
theorem lfew.run {d : lfew.D} (h : lfew.Pre d) : lfew.call d = some (lfew.add d (lfew.F d)) := Entry.of_run lfew.inj h
theorem lfew.does : Does Try.prog 9 lfew.E := Does.of (by kernel_rfl) (show Sound _ lfew.G from Sound.nil _) (by kernel_rfl) (by kernel_rfl) (by kernel_rfl) (LOk.fn 1 (by kernel_rfl) (And.intro (LDo.of (by kernel_rfl) lfew.L0.ok) trivial)) lfew.ok

end Go.Ab
