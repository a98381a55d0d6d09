/-
  Made by a program of mine (wip/gen), and by hand.
-/
import Derived.Test.YtglpcfdjdabdnaaLw3
import Derived.Test.YtglpcfdjdabdnaaRq2
namespace Go.Ab
open Go.Proofs
set_option maxRecDepth 100000
set_option linter.unusedVariables false
set_option linter.unusedSimpArgs false

/-! ### corsned/corsnedlaw12.LockOpens -/
abbrev lockopens.D := ((List ((List Int) × (Int × (Int × (Int × Unit))))) × Unit) × (Int × ((List (Int × (Int × Unit))) × (Int × Unit))) × (List Int) × Int × Int
def lockopens.st : lockopens.D → List AVal × List Ent := fun (l, wv, m, height, age) => ([.d (.pair (.slice (.pair (.slice (.int .u64)) (.pair (.int .i64) (.pair (.int .i64) (.pair (.int .u64) .unit))))) .unit) l, .d (.pair (.int .i64) (.pair (.slice (.pair (.int .u64) (.pair (.int .u64) .unit))) (.pair (.int .u64) .unit))) wv, .d (.arr 32 (.int .u8)) m, .d (.int .i64) height, .d (.int .i64) age], [])
abbrev lockopens.Y := Bool
abbrev lockopens.X := Bool
def lockopens.out : lockopens.X → GRes := fun x => ⟨.d .bool x, [], []⟩
def lockopens.add : lockopens.D → lockopens.Y → lockopens.X := fun (l, wv, m, height, age) y => y


def lockopens.Pre : lockopens.D → Prop := fun (l, w, m, h, a) => LkU l ∧ WitU w ∧ Sm m
def lockopens.F : lockopens.D → lockopens.Y := fun _ => true

noncomputable def lockopens.G : Gam := gcons 8 anyArgs small12.E (gcons 9 anyArgs lfew.E (gcons 10 anyArgs lopen.E (gcons 11 anyArgs r12open.E (gnil))))
noncomputable def lockopens.an : Ann := {
  objs := [],
  loops := fun r => { keep := [], sites := [], frz := [], data := [], owns := [] },
  outs := fun r b => { keep := [], sites := [], frz := [], data := [], owns := [] },
  sums := fun r => none,
  owns := [],
  trim := [],
  res := [] }
theorem lockopens.eq {R : Type} (l : ((List ((List Int) × (Int × (Int × (Int × Unit))))) × Unit)) (wv : (Int × ((List (Int × (Int × Unit))) × (Int × Unit)))) (m : (List Int)) (height : Int) (age : Int) (k : GRes → Option R) : arun Try.prog lockopens.G lockopens.an 0 Try.f3 (lockopens.st (l, wv, m, height, age)).1 (lockopens.st (l, wv, m, height, age)).2 k =
  obind (small12.call ()) fun x1 =>
  obind (lfew.call l) fun x2 =>
  sel ((!x2)) (
   k (lockopens.out x1)) (
   sel ((igt (((List.length wv.2.1) : Nat) : Int) (20 : Int))) (
    k (lockopens.out x1)) (
    sel (x1) (
     obind (lopen.call (l, wv, m, height, age)) fun x3 =>
     obind (r12open.call (l, wv, m, height, age)) fun x4 =>
     k (lockopens.out (ieq x3 x4))) (
     k (lockopens.out false)))) := by kernel_rfl


theorem lockopens.ok : ∀ d, lockopens.Pre d → arun Try.prog lockopens.G lockopens.an 0 Try.f3 (lockopens.st d).1 (lockopens.st d).2 some = some (lockopens.out (lockopens.add d (lockopens.F d))) := by
  rintro ⟨l, w, m, h, a⟩ ⟨hl, hw, hm⟩
  have hl : LkU l := hl
  have hw : WitU w := hw
  have hm : Sm m := hm
  rw [lockopens.eq, small12.run (d := ()) trivial, lfew.run (d := l) trivial]
  simp only [obind_some, small12.add, small12.F, lfew.add, lfew.F, lockopens.add, lockopens.F, sel_true]
  cases hf : fewL l
  · rfl
  · have h6 : l.1.length ≤ 6 := by
      unfold fewL at hf
      rw [Bool.and_eq_true, decide_eq_true_eq] at hf
      exact hf.2
    by_cases h20 : w.2.1.length ≤ 20
    · rw [igt_false (by omega), lopen.run (d := (l, w, m, h, a)) ⟨hl, by show l.1.length ≤ 1000000000; omega, hw, hm⟩, r12open.run (d := (l, w, m, h, a)) ⟨hl, hw, hm⟩]
      simp only [obind_some, lopen.add, lopen.F, r12open.add, r12open.F, Bool.not_true, sel_false]
      rw [ieq_true rfl]
    · rw [igt_true (by omega)]; rfl

theorem lockopens.inj : ∀ d d', lockopens.st d = lockopens.st d' → d = d' := fun (l, wv, m, height, age) (l', wv', m', height', age') hEq => by
  have e0 : l = l' := d_inj (t := (.pair (.slice (.pair (.slice (.int .u64)) (.pair (.int .i64) (.pair (.int .i64) (.pair (.int .u64) .unit))))) .unit)) (congrArg (fun s : List AVal × List Ent => (s.1.getD 0 .undef)) hEq)
  have e1 : wv = wv' := d_inj (t := (.pair (.int .i64) (.pair (.slice (.pair (.int .u64) (.pair (.int .u64) .unit))) (.pair (.int .u64) .unit)))) (congrArg (fun s : List AVal × List Ent => (s.1.getD 1 .undef)) hEq)
  have e2 : m = m' := d_inj (t := (.arr 32 (.int .u8))) (congrArg (fun s : List AVal × List Ent => (s.1.getD 2 .undef)) hEq)
  have e3 : height = height' := d_inj (t := (.int .i64)) (congrArg (fun s : List AVal × List Ent => (s.1.getD 3 .undef)) hEq)
  have e4 : age = age' := d_inj (t := (.int .i64)) (congrArg (fun s : List AVal × List Ent => (s.1.getD 4 .undef)) hEq)
  rw [e0, e1, e2, e3, e4]
noncomputable def lockopens.E : Entry := Entry.of [some (.pair (.slice (.pair (.slice (.int .u64)) (.pair (.int .i64) (.pair (.int .i64) (.pair (.int .u64) .unit))))) .unit), some (.pair (.int .i64) (.pair (.slice (.pair (.int .u64) (.pair (.int .u64) .unit))) (.pair (.int .u64) .unit))), some (.arr 32 (.int .u8)), some (.int .i64), some (.int .i64)] lockopens.st lockopens.Pre (fun d => lockopens.add d (lockopens.F d)) lockopens.out
noncomputable def lockopens.call : lockopens.D → Option lockopens.X := fun d => lockopens.E.run (lockopens.st d).1 (lockopens.st d).2
theorem lockopens.run {d : lockopens.D} (h : lockopens.Pre d) : lockopens.call d = some (lockopens.add d (lockopens.F d)) := Entry.of_run lockopens.inj h
theorem lockopens.does : Does Try.prog 3 lockopens.E := Does.of (by kernel_rfl) (show Sound _ lockopens.G from Sound.cons small12.does (Sound.cons lfew.does (Sound.cons lopen.does (Sound.cons r12open.does (Sound.nil _))))) (by kernel_rfl) (by kernel_rfl) (by kernel_rfl) (LOk.fn 0 (by kernel_rfl) trivial) lockopens.ok

end Go.Ab
