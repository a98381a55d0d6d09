/-
  Made by a program of mine (wip/gen), and by hand.
-/
import Derived.Test.YtglpcfdjdabdnaaSi1
namespace Go.Ab
open Go.Proofs
set_option maxRecDepth 100000
set_option linter.unusedVariables false
set_option linter.unusedSimpArgs false

/-! ### corsned/corsnedref06.times -/
abbrev r6times.L0.D := Int × Int × Int
def r6times.L0.st : r6times.L0.D → AS := fun (a_2, b_2, outv) => ⟨([.d (.int .u64) a_2, .d (.int .u64) b_2, .undef, .undef, .undef, .d (.int .u64) outv] ++ undN 16 []), [], (List.replicate 22 [])⟩
abbrev r6times.L0.Y0 := Int  -- out
abbrev r6times.L0.X0 := Int
def r6times.L0.ex0 : r6times.L0.X0 → Exit × AS := fun x => (.exit 0, ⟨(undN 5 ([.d (.int .u64) x] ++ undN 16 [])), [], (List.replicate 22 [])⟩)
abbrev r6times.L0.X := r6times.L0.X0
abbrev r6times.L0.Y := r6times.L0.Y0
def r6times.L0.out : r6times.L0.X → Out (Exit × AS) := fun x => .ok (r6times.L0.ex0 x)
def r6times.L0.add : r6times.L0.D → r6times.L0.Y → r6times.L0.X := fun (a_2, b_2, outv) y => y
abbrev r6times.D := Int × Int
def r6times.st : r6times.D → List AVal × List Ent := fun (a, b) => ([.d (.int .u64) a, .d (.int .u64) b], [])
abbrev r6times.Y := Int
abbrev r6times.X := Int
def r6times.out : r6times.X → GRes := fun x => ⟨.d (.int .u64) x, [], []⟩
def r6times.add : r6times.D → r6times.Y → r6times.X := fun (a, b) y => y


def r6times.L0.Pre : r6times.L0.D → Prop := fun (a, b, o) => Pn a ∧ U64 b ∧ Pn o
def r6times.L0.F : r6times.L0.D → r6times.L0.Y := fun (a, b, o) => (o + a * b) % 4611686018427377339
def r6times.Pre : r6times.D → Prop := fun (a, b) => Pn a ∧ U64 b
def r6times.F : r6times.D → r6times.Y := fun (a, b) => mulP a b

noncomputable def r6times.G : Gam := gnil
noncomputable def r6times.L0.E : LEntry := LEntry.of r6times.L0.st r6times.L0.Pre (fun d => r6times.L0.add d (r6times.L0.F d)) r6times.L0.out
noncomputable def r6times.L0.call : r6times.L0.D → Option r6times.L0.X := fun d => r6times.L0.E.run (r6times.L0.st d)
noncomputable def r6times.an : Ann := {
  objs := [],
  loops := fun r => bif Nat.beq r 2 then { keep := [0, 1, 5], sites := [], frz := [], data := [], owns := [] } else { keep := [], sites := [], frz := [], data := [], owns := [] },
  outs := fun r b => bif Nat.beq r 2 then (bif b then { keep := [4], sites := [], frz := [], data := [], owns := [] } else { keep := [5], sites := [], frz := [], data := [], owns := [] }) else { keep := [], sites := [], frz := [], data := [], owns := [] },
  sums := fun r => bif Nat.beq r 2 then some r6times.L0.E else none,
  owns := [],
  trim := [],
  res := [] }
theorem r6times.L0.inj : ∀ d d', r6times.L0.st d = r6times.L0.st d' → d = d' := fun (a_2, b_2, outv) (a_2', b_2', outv') hEq => by
  have e0 : a_2 = a_2' := d_inj (t := (.int .u64)) (congrArg (fun s : AS => (s.slot 0)) hEq)
  have e1 : b_2 = b_2' := d_inj (t := (.int .u64)) (congrArg (fun s : AS => (s.slot 1)) hEq)
  have e2 : outv = outv' := d_inj (t := (.int .u64)) (congrArg (fun s : AS => (s.slot 5)) hEq)
  rw [e0, e1, e2]
theorem r6times.L0.run {d : r6times.L0.D} (h : r6times.L0.Pre d) : r6times.L0.call d = some (r6times.L0.add d (r6times.L0.F d)) := LEntry.of_run r6times.L0.inj h
theorem r6times.L0.byRounds (μ : r6times.L0.D → Nat) (h : ∀ d, r6times.L0.Pre d → (∃ d', r6times.L0.Pre d' ∧ μ d' < μ d ∧ r6times.L0.add d' (r6times.L0.F d') = r6times.L0.add d (r6times.L0.F d) ∧ ∀ {R : Type} (kn : AS → Option R) (kx : Exit → AS → Option R), lround Try.prog r6times.G r6times.an 0 Try.f89 0 (r6times.L0.st d) kn kx = kn (r6times.L0.st d')) ∨ (∀ {R : Type} (kn : AS → Option R) (kx : Exit → AS → Option R), lround Try.prog r6times.G r6times.an 0 Try.f89 0 (r6times.L0.st d) kn kx = kx (r6times.L0.ex0 (r6times.L0.add d (r6times.L0.F d))).1 (r6times.L0.ex0 (r6times.L0.add d (r6times.L0.F d))).2)) : ∀ d, r6times.L0.Pre d → ∃ n, lrun Try.prog r6times.G r6times.an 0 Try.f89 0 n (r6times.L0.st d) (fun e s => some (e, s)) = (r6times.L0.out (r6times.L0.add d (r6times.L0.F d))).eval := lrun_one (F := fun d => r6times.L0.add d (r6times.L0.F d)) μ h
theorem r6times.L0.step {R : Type} (a_2 : Int) (b_2 : Int) (outv : Int) (kn : AS → Option R) (kx : Exit → AS → Option R) : lround Try.prog r6times.G r6times.an 0 Try.f89 0 (r6times.L0.st (a_2, b_2, outv)) kn kx =
  sel ((igt b_2 (0 : Int))) (
   sel ((ieq (irem b_2 (2 : Int)) (1 : Int))) (
    kn (r6times.L0.st ((irem (iadd .u64 a_2 a_2) (4611686018427377339 : Int)), (iquo .u64 b_2 (2 : Int)), (irem (iadd .u64 outv a_2) (4611686018427377339 : Int))))) (
    kn (r6times.L0.st ((irem (iadd .u64 a_2 a_2) (4611686018427377339 : Int)), (iquo .u64 b_2 (2 : Int)), outv)))) (
   kx (r6times.L0.ex0 outv).1 (r6times.L0.ex0 outv).2) := by kernel_rfl
theorem r6times.eq {R : Type} (a : Int) (b : Int) (k : GRes → Option R) : arun Try.prog r6times.G r6times.an 0 Try.f89 (r6times.st (a, b)).1 (r6times.st (a, b)).2 k =
  obind (r6times.L0.call (a, b, (0 : Int))) fun x1 =>
  k (r6times.out x1) := by kernel_rfl


theorem half_step (o a b : Int) (m : Int) : (o + a * b) % m = ((if b % 2 = 1 then (o + a) % m else o) + (a + a) % m * (b / 2)) % m := by
  have e : b = 2 * (b / 2) + b % 2 := by omega
  have hb : b % 2 = 0 ∨ b % 2 = 1 := by omega
  generalize b / 2 = q at *
  have l1 : ∀ x y : Int, (x % m + (a + a) % m * y) % m = (x + (a + a) * y) % m := fun x y => by
    rw [Int.add_emod, Int.emod_emod_of_dvd _ (Int.dvd_refl m), Int.mul_emod, Int.emod_emod_of_dvd _ (Int.dvd_refl m), ← Int.mul_emod, ← Int.add_emod]
  have l2 : ∀ x y : Int, (x + (a + a) % m * y) % m = (x + (a + a) * y) % m := fun x y => by
    rw [Int.add_emod, Int.mul_emod, Int.emod_emod_of_dvd _ (Int.dvd_refl m), ← Int.mul_emod, ← Int.add_emod]
  rcases hb with h | h
  · rw [if_neg (by omega), l2]
    rw [h] at e
    rw [e, Int.add_zero, Int.add_mul, ← Int.mul_assoc, Int.mul_comm a 2, Int.two_mul, Int.add_mul]
  · rw [if_pos h, l1]
    rw [h] at e
    rw [e, Int.mul_add, Int.mul_one, ← Int.mul_assoc, Int.mul_comm a 2, Int.two_mul]
    congr 1
    omega
theorem iquo2 {n : Int} (h : U64 n) : iquo .u64 n 2 = n / 2 := iquo_nn h.1 (by omega) h.2
theorem r6times.L0.ok : ∀ d, r6times.L0.Pre d → ∃ n, lrun Try.prog r6times.G r6times.an 0 Try.f89 0 n (r6times.L0.st d) (fun e s => some (e, s)) = (r6times.L0.out (r6times.L0.add d (r6times.L0.F d))).eval := by
  refine r6times.L0.byRounds (fun (a, b, o) => b.toNat) ?_
  rintro ⟨a, b, o⟩ ⟨ha, hb, ho⟩
  have ha : Pn a := ha
  have hb : U64 b := hb
  have ho : Pn o := ho
  obtain ⟨a0, a1⟩ := ha
  obtain ⟨b0, b1⟩ := hb
  obtain ⟨o0, o1⟩ := ho
  by_cases h : 0 < b
  · left
    have e1 : irem (iadd .u64 a a) 4611686018427377339 = (a + a) % 4611686018427377339 := by
      have : iadd .u64 a a = a + a := by rw [iadd_um]; omega
      rw [this, irem_nn (by omega)]
    have e2 : irem (iadd .u64 o a) 4611686018427377339 = (o + a) % 4611686018427377339 := by
      have : iadd .u64 o a = o + a := by rw [iadd_um]; omega
      rw [this, irem_nn (by omega)]
    refine ⟨((a + a) % 4611686018427377339, b / 2, if b % 2 = 1 then (o + a) % 4611686018427377339 else o), ⟨⟨by omega, by omega⟩, ⟨by omega, by omega⟩, ?_⟩, by simp only []; omega, ?_, fun kn kx => ?_⟩
    · show Pn (if b % 2 = 1 then (o + a) % 4611686018427377339 else o)
      split
      · exact ⟨by omega, by omega⟩
      · exact ⟨o0, o1⟩
    · exact congrArg _ (half_step o a b 4611686018427377339).symm
    · rw [r6times.L0.step, igt_true h, e1, e2, iquo2 ⟨b0, b1⟩, irem_nn b0]
      by_cases h1 : b % 2 = 1
      · rw [ieq_true h1, if_pos h1]; rfl
      · rw [ieq_false h1, if_neg h1]; rfl
  · right
    intro R kn kx
    obtain rfl : b = 0 := by omega
    rw [r6times.L0.step, igt_false (by omega)]
    simp only [sel_false, r6times.L0.add, r6times.L0.F]
    rw [show (o + a * 0) % 4611686018427377339 = o by omega]
theorem r6times.ok : ∀ d, r6times.Pre d → arun Try.prog r6times.G r6times.an 0 Try.f89 (r6times.st d).1 (r6times.st d).2 some = some (r6times.out (r6times.add d (r6times.F d))) := by
  rintro ⟨a, b⟩ ⟨ha, hb⟩
  rw [r6times.eq, r6times.L0.run (d := (a, b, 0)) ⟨ha, hb, by omega, by omega⟩]
  simp only [obind_some, r6times.L0.add, r6times.L0.F, Int.zero_add]
  rfl

theorem r6times.inj : ∀ d d', r6times.st d = r6times.st d' → d = d' := fun (a, b) (a', b') hEq => by
  have e0 : a = a' := d_inj (t := (.int .u64)) (congrArg (fun s : List AVal × List Ent => (s.1.getD 0 .undef)) hEq)
  have e1 : b = b' := d_inj (t := (.int .u64)) (congrArg (fun s : List AVal × List Ent => (s.1.getD 1 .undef)) hEq)
  rw [e0, e1]
noncomputable def r6times.E : Entry := Entry.of [some (.int .u64), some (.int .u64)] r6times.st r6times.Pre (fun d => r6times.add d (r6times.F d)) r6times.out
noncomputable def r6times.call : r6times.D → Option r6times.X := fun d => r6times.E.run (r6times.st d).1 (r6times.st d).2
theorem r6times.run {d : r6times.D} (h : r6times.Pre d) : r6times.call d = some (r6times.add d (r6times.F d)) := Entry.of_run r6times.inj h
theorem r6times.does : Does Try.prog 89 r6times.E := Does.of (by kernel_rfl) (show Sound _ r6times.G from Sound.nil _) (by kernel_rfl) (by kernel_rfl) (by kernel_rfl) (LOk.fn 1 (by kernel_rfl) (And.intro (LDo.of (by kernel_rfl) r6times.L0.ok) trivial)) r6times.ok

/-! ### corsned/corsnedref06.power -/
abbrev r6power.L0.D := Int × Int × Int
def r6power.L0.st : r6power.L0.D → AS := fun (a_2, n_2, outv) => ⟨([.d (.int .u64) a_2, .d (.int .u64) n_2, .undef, .undef, .undef, .d (.int .u64) outv] ++ undN 14 []), [], (List.replicate 20 [])⟩
abbrev r6power.L0.Y0 := Int  -- out
abbrev r6power.L0.X0 := Int
def r6power.L0.ex0 : r6power.L0.X0 → Exit × AS := fun x => (.exit 0, ⟨(undN 5 ([.d (.int .u64) x] ++ undN 14 [])), [], (List.replicate 20 [])⟩)
abbrev r6power.L0.X := r6power.L0.X0
abbrev r6power.L0.Y := r6power.L0.Y0
def r6power.L0.out : r6power.L0.X → Out (Exit × AS) := fun x => .ok (r6power.L0.ex0 x)
def r6power.L0.add : r6power.L0.D → r6power.L0.Y → r6power.L0.X := fun (a_2, n_2, outv) y => y
abbrev r6power.D := Int × Int
def r6power.st : r6power.D → List AVal × List Ent := fun (a, n) => ([.d (.int .u64) a, .d (.int .u64) n], [])
abbrev r6power.Y := Int
abbrev r6power.X := Int
def r6power.out : r6power.X → GRes := fun x => ⟨.d (.int .u64) x, [], []⟩
def r6power.add : r6power.D → r6power.Y → r6power.X := fun (a, n) y => y


def r6power.L0.Pre : r6power.L0.D → Prop := fun (a, n, o) => Pn a ∧ U64 n ∧ Pn o
def r6power.L0.F : r6power.L0.D → r6power.L0.Y := fun (a, n, o) => pwF 64 a n.toNat o
def r6power.Pre : r6power.D → Prop := fun (a, n) => Pn a ∧ U64 n
def r6power.F : r6power.D → r6power.Y := fun (a, n) => pw a n.toNat

noncomputable def r6power.G : Gam := gcons 89 anyArgs r6times.E (gnil)
noncomputable def r6power.L0.E : LEntry := LEntry.of r6power.L0.st r6power.L0.Pre (fun d => r6power.L0.add d (r6power.L0.F d)) r6power.L0.out
noncomputable def r6power.L0.call : r6power.L0.D → Option r6power.L0.X := fun d => r6power.L0.E.run (r6power.L0.st d)
noncomputable def r6power.an : Ann := {
  objs := [],
  loops := fun r => bif Nat.beq r 2 then { keep := [0, 1, 5], sites := [], frz := [], data := [], owns := [] } else { keep := [], sites := [], frz := [], data := [], owns := [] },
  outs := fun r b => bif Nat.beq r 2 then (bif b then { keep := [4], sites := [], frz := [], data := [], owns := [] } else { keep := [5], sites := [], frz := [], data := [], owns := [] }) else { keep := [], sites := [], frz := [], data := [], owns := [] },
  sums := fun r => bif Nat.beq r 2 then some r6power.L0.E else none,
  owns := [],
  trim := [],
  res := [] }
theorem r6power.L0.inj : ∀ d d', r6power.L0.st d = r6power.L0.st d' → d = d' := fun (a_2, n_2, outv) (a_2', n_2', outv') hEq => by
  have e0 : a_2 = a_2' := d_inj (t := (.int .u64)) (congrArg (fun s : AS => (s.slot 0)) hEq)
  have e1 : n_2 = n_2' := d_inj (t := (.int .u64)) (congrArg (fun s : AS => (s.slot 1)) hEq)
  have e2 : outv = outv' := d_inj (t := (.int .u64)) (congrArg (fun s : AS => (s.slot 5)) hEq)
  rw [e0, e1, e2]
theorem r6power.L0.run {d : r6power.L0.D} (h : r6power.L0.Pre d) : r6power.L0.call d = some (r6power.L0.add d (r6power.L0.F d)) := LEntry.of_run r6power.L0.inj h
theorem r6power.L0.byRounds (μ : r6power.L0.D → Nat) (h : ∀ d, r6power.L0.Pre d → (∃ d', r6power.L0.Pre d' ∧ μ d' < μ d ∧ r6power.L0.add d' (r6power.L0.F d') = r6power.L0.add d (r6power.L0.F d) ∧ ∀ {R : Type} (kn : AS → Option R) (kx : Exit → AS → Option R), lround Try.prog r6power.G r6power.an 0 Try.f77 0 (r6power.L0.st d) kn kx = kn (r6power.L0.st d')) ∨ (∀ {R : Type} (kn : AS → Option R) (kx : Exit → AS → Option R), lround Try.prog r6power.G r6power.an 0 Try.f77 0 (r6power.L0.st d) kn kx = kx (r6power.L0.ex0 (r6power.L0.add d (r6power.L0.F d))).1 (r6power.L0.ex0 (r6power.L0.add d (r6power.L0.F d))).2)) : ∀ d, r6power.L0.Pre d → ∃ n, lrun Try.prog r6power.G r6power.an 0 Try.f77 0 n (r6power.L0.st d) (fun e s => some (e, s)) = (r6power.L0.out (r6power.L0.add d (r6power.L0.F d))).eval := lrun_one (F := fun d => r6power.L0.add d (r6power.L0.F d)) μ h
theorem r6power.L0.step {R : Type} (a_2 : Int) (n_2 : Int) (outv : Int) (kn : AS → Option R) (kx : Exit → AS → Option R) : lround Try.prog r6power.G r6power.an 0 Try.f77 0 (r6power.L0.st (a_2, n_2, outv)) kn kx =
  sel ((igt n_2 (0 : Int))) (
   sel ((ieq (irem n_2 (2 : Int)) (1 : Int))) (
    obind (r6times.call (outv, a_2)) fun x1 =>
    obind (r6times.call (a_2, a_2)) fun x2 =>
    kn (r6power.L0.st (x2, (iquo .u64 n_2 (2 : Int)), x1))) (
    obind (r6times.call (a_2, a_2)) fun x3 =>
    kn (r6power.L0.st (x3, (iquo .u64 n_2 (2 : Int)), outv)))) (
   kx (r6power.L0.ex0 outv).1 (r6power.L0.ex0 outv).2) := by kernel_rfl
theorem r6power.eq {R : Type} (a : Int) (n : Int) (k : GRes → Option R) : arun Try.prog r6power.G r6power.an 0 Try.f77 (r6power.st (a, n)).1 (r6power.st (a, n)).2 k =
  obind (r6power.L0.call (a, n, (1 : Int))) fun x4 =>
  k (r6power.out x4) := by kernel_rfl


theorem r6power.L0.ok : ∀ d, r6power.L0.Pre d → ∃ n, lrun Try.prog r6power.G r6power.an 0 Try.f77 0 n (r6power.L0.st d) (fun e s => some (e, s)) = (r6power.L0.out (r6power.L0.add d (r6power.L0.F d))).eval := by
  refine r6power.L0.byRounds (fun (a, n, o) => n.toNat) ?_
  rintro ⟨a, n, o⟩ ⟨ha, hn, ho⟩
  have ha : Pn a := ha
  have hn : U64 n := hn
  have ho : Pn o := ho
  have n0 := hn.1
  have n1 := hn.2
  by_cases h : 0 < n
  · left
    have e : r6power.L0.F (a, n, o) = r6power.L0.F (mulP a a, n / 2, if n % 2 = 1 then mulP o a else o) := by
      show pwF 64 a n.toNat o = pwF 64 (mulP a a) (n / 2).toNat _
      rw [pwF_more 64 65 a n.toNat o (by omega) (by omega)]
      have t1 : (n / 2).toNat = n.toNat / 2 := by omega
      have t2 : (n % 2 = 1) = (n.toNat % 2 = 1) := by apply propext; omega
      rw [t1]
      simp only [t2]
      show (if n.toNat = 0 then o else _) = _
      rw [if_neg (by omega)]
    refine ⟨(mulP a a, n / 2, if n % 2 = 1 then mulP o a else o), ⟨mulP_ok a a, ⟨by omega, by omega⟩, ?_⟩, by show (n / 2).toNat < n.toNat; omega, ?_, fun kn kx => ?_⟩
    · show Pn (if n % 2 = 1 then mulP o a else o)
      split
      · exact mulP_ok _ _
      · exact ho
    · exact congrArg _ e.symm
    · rw [r6power.L0.step, igt_true h, iquo2 hn, irem_nn n0, r6times.run (d := (o, a)) ⟨ho, ha.u⟩, r6times.run (d := (a, a)) ⟨ha, ha.u⟩]
      by_cases h1 : n % 2 = 1
      · rw [ieq_true h1, if_pos h1]; rfl
      · rw [ieq_false h1, if_neg h1]; rfl
  · right
    intro R kn kx
    obtain rfl : n = 0 := by omega
    rw [r6power.L0.step, igt_false (by omega)]
    simp only [sel_false, r6power.L0.add, r6power.L0.F]
    rw [show pwF 64 a (Int.toNat 0) o = o from pwF_zero _ _ _]
theorem r6power.ok : ∀ d, r6power.Pre d → arun Try.prog r6power.G r6power.an 0 Try.f77 (r6power.st d).1 (r6power.st d).2 some = some (r6power.out (r6power.add d (r6power.F d))) := by
  rintro ⟨a, n⟩ ⟨ha, hn⟩
  rw [r6power.eq, r6power.L0.run (d := (a, n, 1)) ⟨ha, hn, by omega, by omega⟩]
  rfl

theorem r6power.inj : ∀ d d', r6power.st d = r6power.st d' → d = d' := fun (a, n) (a', n') hEq => by
  have e0 : a = a' := d_inj (t := (.int .u64)) (congrArg (fun s : List AVal × List Ent => (s.1.getD 0 .undef)) hEq)
  have e1 : n = n' := d_inj (t := (.int .u64)) (congrArg (fun s : List AVal × List Ent => (s.1.getD 1 .undef)) hEq)
  rw [e0, e1]
noncomputable def r6power.E : Entry := Entry.of [some (.int .u64), some (.int .u64)] r6power.st r6power.Pre (fun d => r6power.add d (r6power.F d)) r6power.out
noncomputable def r6power.call : r6power.D → Option r6power.X := fun d => r6power.E.run (r6power.st d).1 (r6power.st d).2
theorem r6power.run {d : r6power.D} (h : r6power.Pre d) : r6power.call d = some (r6power.add d (r6power.F d)) := Entry.of_run r6power.inj h
theorem r6power.does : Does Try.prog 77 r6power.E := Does.of (by kernel_rfl) (show Sound _ r6power.G from Sound.cons r6times.does (Sound.nil _)) (by kernel_rfl) (by kernel_rfl) (by kernel_rfl) (LOk.fn 1 (by kernel_rfl) (And.intro (LDo.of (by kernel_rfl) r6power.L0.ok) trivial)) r6power.ok

/-! ### corsned/corsnedref06.Right -/
abbrev r6right.D := Int
def r6right.st : r6right.D → List AVal × List Ent := fun p => ([.d (.int .u64) p], [])
abbrev r6right.Y := Bool
abbrev r6right.X := Bool
def r6right.out : r6right.X → GRes := fun x => ⟨.d .bool x, [], []⟩
def r6right.add : r6right.D → r6right.Y → r6right.X := fun p y => y


def r6right.Pre : r6right.D → Prop := fun p => U64 p
def r6right.F : r6right.D → r6right.Y := fun p => isP p

noncomputable def r6right.G : Gam := gcons 77 anyArgs r6power.E (gnil)
noncomputable def r6right.an : Ann := {
  objs := [],
  loops := fun r => { keep := [], sites := [], frz := [], data := [], owns := [] },
  outs := fun r b => { keep := [], sites := [], frz := [], data := [], owns := [] },
  sums := fun r => none,
  owns := [],
  trim := [],
  res := [] }
theorem r6right.eq {R : Type} (p : Int) (k : GRes → Option R) : arun Try.prog r6right.G r6right.an 0 Try.f76 (r6right.st p).1 (r6right.st p).2 k =
  sel ((ige p (1 : Int))) (
   sel ((ilt p (4611686018427377339 : Int))) (
    obind (r6power.call (p, (2305843009213688669 : Int))) fun x1 =>
    k (r6right.out (ieq x1 (1 : Int)))) (
    k (r6right.out false))) (
   k (r6right.out false)) := by kernel_rfl


theorem r6right.ok : ∀ d, r6right.Pre d → arun Try.prog r6right.G r6right.an 0 Try.f76 (r6right.st d).1 (r6right.st d).2 some = some (r6right.out (r6right.add d (r6right.F d))) := by
  intro (p : Int) hp
  have hp : U64 p := hp
  rw [r6right.eq]
  simp only [r6right.add, r6right.F, isP]
  by_cases h : 0 < p
  · rw [ige_true (by omega), sel_true]
    by_cases h2 : p < 4611686018427377339
    · rw [ilt_true h2, sel_true, dec_true ⟨h, h2⟩, Bool.true_and, r6power.run (d := (p, 2305843009213688669)) ⟨⟨by omega, h2⟩, by constructor <;> decide⟩]
      rfl
    · rw [ilt_false h2, sel_false, dec_false (fun x => h2 x.2), Bool.false_and]
  · rw [ige_false (by omega), sel_false, dec_false (fun x => h x.1), Bool.false_and]

theorem r6right.inj : ∀ d d', r6right.st d = r6right.st d' → d = d' := fun p p' hEq => by
  have e0 : p = p' := d_inj (t := (.int .u64)) (congrArg (fun s : List AVal × List Ent => (s.1.getD 0 .undef)) hEq)
  rw [e0]
noncomputable def r6right.E : Entry := Entry.of [some (.int .u64)] r6right.st r6right.Pre (fun d => r6right.add d (r6right.F d)) r6right.out
noncomputable def r6right.call : r6right.D → Option r6right.X := fun d => r6right.E.run (r6right.st d).1 (r6right.st d).2
theorem r6right.run {d : r6right.D} (h : r6right.Pre d) : r6right.call d = some (r6right.add d (r6right.F d)) := Entry.of_run r6right.inj h
theorem r6right.does : Does Try.prog 76 r6right.E := Does.of (by kernel_rfl) (show Sound _ r6right.G from Sound.cons r6power.does (Sound.nil _)) (by kernel_rfl) (by kernel_rfl) (by kernel_rfl) (LOk.fn 0 (by kernel_rfl) trivial) r6right.ok

/-! ### corsned/corsnedref06.taken -/
abbrev r6taken.D := Int
def r6taken.st : r6taken.D → List AVal × List Ent := fun p => ([.d (.int .u64) p], [])
abbrev r6taken.Y := Int
abbrev r6taken.X := Int
def r6taken.out : r6taken.X → GRes := fun x => ⟨.d (.int .u64) x, [], []⟩
def r6taken.add : r6taken.D → r6taken.Y → r6taken.X := fun p y => y


def r6taken.Pre : r6taken.D → Prop := fun p => U64 p
def r6taken.F : r6taken.D → r6taken.Y := fun p => tk p

noncomputable def r6taken.G : Gam := gcons 76 anyArgs r6right.E (gnil)
noncomputable def r6taken.an : Ann := {
  objs := [],
  loops := fun r => { keep := [], sites := [], frz := [], data := [], owns := [] },
  outs := fun r b => { keep := [], sites := [], frz := [], data := [], owns := [] },
  sums := fun r => none,
  owns := [],
  trim := [],
  res := [] }
theorem r6taken.eq {R : Type} (p : Int) (k : GRes → Option R) : arun Try.prog r6taken.G r6taken.an 0 Try.f78 (r6taken.st p).1 (r6taken.st p).2 k =
  obind (r6right.call p) fun x1 =>
  sel (x1) (
   k (r6taken.out p)) (
   k (r6taken.out (1 : Int))) := by kernel_rfl


theorem r6taken.ok : ∀ d, r6taken.Pre d → arun Try.prog r6taken.G r6taken.an 0 Try.f78 (r6taken.st d).1 (r6taken.st d).2 some = some (r6taken.out (r6taken.add d (r6taken.F d))) := by
  intro p hp
  rw [r6taken.eq, r6right.run (d := p) hp]
  simp only [obind_some, r6right.add, r6right.F, r6taken.add, r6taken.F, tk]
  cases isP p <;> rfl

theorem r6taken.inj : ∀ d d', r6taken.st d = r6taken.st d' → d = d' := fun p p' hEq => by
  have e0 : p = p' := d_inj (t := (.int .u64)) (congrArg (fun s : List AVal × List Ent => (s.1.getD 0 .undef)) hEq)
  rw [e0]
noncomputable def r6taken.E : Entry := Entry.of [some (.int .u64)] r6taken.st r6taken.Pre (fun d => r6taken.add d (r6taken.F d)) r6taken.out
noncomputable def r6taken.call : r6taken.D → Option r6taken.X := fun d => r6taken.E.run (r6taken.st d).1 (r6taken.st d).2
theorem r6taken.run {d : r6taken.D} (h : r6taken.Pre d) : r6taken.call d = some (r6taken.add d (r6taken.F d)) := Entry.of_run r6taken.inj h
theorem r6taken.does : Does Try.prog 78 r6taken.E := Does.of (by kernel_rfl) (show Sound _ r6taken.G from Sound.cons r6right.does (Sound.nil _)) (by kernel_rfl) (by kernel_rfl) (by kernel_rfl) (LOk.fn 0 (by kernel_rfl) trivial) r6taken.ok

/-! ### corsned/corsnedref06.Scale -/
abbrev r6scale.D := Int × Int
def r6scale.st : r6scale.D → List AVal × List Ent := fun (p, kv) => ([.d (.int .u64) p, .d (.int .u64) kv], [])
abbrev r6scale.Y := Int
abbrev r6scale.X := Int
def r6scale.out : r6scale.X → GRes := fun x => ⟨.d (.int .u64) x, [], []⟩
def r6scale.add : r6scale.D → r6scale.Y → r6scale.X := fun (p, kv) y => y


def r6scale.Pre : r6scale.D → Prop := fun (p, k) => U64 p ∧ U64 k
def r6scale.F : r6scale.D → r6scale.Y := fun (p, k) => scaleP p k

noncomputable def r6scale.G : Gam := gcons 78 anyArgs r6taken.E (gcons 77 anyArgs r6power.E (gnil))
noncomputable def r6scale.an : Ann := {
  objs := [],
  loops := fun r => { keep := [], sites := [], frz := [], data := [], owns := [] },
  outs := fun r b => { keep := [], sites := [], frz := [], data := [], owns := [] },
  sums := fun r => none,
  owns := [],
  trim := [],
  res := [] }
theorem r6scale.eq {R : Type} (p : Int) (kv : Int) (k : GRes → Option R) : arun Try.prog r6scale.G r6scale.an 0 Try.f58 (r6scale.st (p, kv)).1 (r6scale.st (p, kv)).2 k =
  obind (r6taken.call p) fun x1 =>
  obind (r6power.call (x1, (irem kv (2305843009213688669 : Int)))) fun x2 =>
  k (r6scale.out x2) := by kernel_rfl


theorem r6scale.ok : ∀ d, r6scale.Pre d → arun Try.prog r6scale.G r6scale.an 0 Try.f58 (r6scale.st d).1 (r6scale.st d).2 some = some (r6scale.out (r6scale.add d (r6scale.F d))) := by
  rintro ⟨p, k⟩ ⟨hp, hk⟩
  have hk : U64 k := hk
  have e := irem_nn (y := 2305843009213688669) hk.1
  have b : U64 (k % 2305843009213688669) := ⟨by omega, by omega⟩
  rw [r6scale.eq, r6taken.run (d := p) hp, e]
  simp only [obind_some, r6taken.add, r6taken.F]
  rw [r6power.run (d := (tk p, k % 2305843009213688669)) ⟨tk_ok p, b⟩]
  rfl

theorem r6scale.inj : ∀ d d', r6scale.st d = r6scale.st d' → d = d' := fun (p, kv) (p', kv') hEq => by
  have e0 : p = p' := d_inj (t := (.int .u64)) (congrArg (fun s : List AVal × List Ent => (s.1.getD 0 .undef)) hEq)
  have e1 : kv = kv' := d_inj (t := (.int .u64)) (congrArg (fun s : List AVal × List Ent => (s.1.getD 1 .undef)) hEq)
  rw [e0, e1]
noncomputable def r6scale.E : Entry := Entry.of [some (.int .u64), some (.int .u64)] r6scale.st r6scale.Pre (fun d => r6scale.add d (r6scale.F d)) r6scale.out
noncomputable def r6scale.call : r6scale.D → Option r6scale.X := fun d => r6scale.E.run (r6scale.st d).1 (r6scale.st d).2
theorem r6scale.run {d : r6scale.D} (h : r6scale.Pre d) : r6scale.call d = some (r6scale.add d (r6scale.F d)) := Entry.of_run r6scale.inj h
theorem r6scale.does : Does Try.prog 58 r6scale.E := Does.of (by kernel_rfl) (show Sound _ r6scale.G from Sound.cons r6taken.does (Sound.cons r6power.does (Sound.nil _))) (by kernel_rfl) (by kernel_rfl) (by kernel_rfl) (LOk.fn 0 (by kernel_rfl) trivial) r6scale.ok

/-! ### corsned/corsnedref06.Base -/
abbrev r6base.D := Int
def r6base.st : r6base.D → List AVal × List Ent := fun kv => ([.d (.int .u64) kv], [])
abbrev r6base.Y := Int
abbrev r6base.X := Int
def r6base.out : r6base.X → GRes := fun x => ⟨.d (.int .u64) x, [], []⟩
def r6base.add : r6base.D → r6base.Y → r6base.X := fun kv y => y


def r6base.Pre : r6base.D → Prop := fun k => U64 k
def r6base.F : r6base.D → r6base.Y := fun k => baseP k

noncomputable def r6base.G : Gam := gcons 58 anyArgs r6scale.E (gnil)
noncomputable def r6base.an : Ann := {
  objs := [],
  loops := fun r => { keep := [], sites := [], frz := [], data := [], owns := [] },
  outs := fun r b => { keep := [], sites := [], frz := [], data := [], owns := [] },
  sums := fun r => none,
  owns := [],
  trim := [],
  res := [] }
theorem r6base.eq {R : Type} (kv : Int) (k : GRes → Option R) : arun Try.prog r6base.G r6base.an 0 Try.f34 (r6base.st kv).1 (r6base.st kv).2 k =
  obind (r6scale.call ((4 : Int), kv)) fun x1 =>
  k (r6base.out x1) := by kernel_rfl


theorem r6base.ok : ∀ d, r6base.Pre d → arun Try.prog r6base.G r6base.an 0 Try.f34 (r6base.st d).1 (r6base.st d).2 some = some (r6base.out (r6base.add d (r6base.F d))) := by
  intro k hk
  rw [r6base.eq, r6scale.run (d := (4, k)) ⟨⟨by omega, by omega⟩, hk⟩]
  rfl

theorem r6base.inj : ∀ d d', r6base.st d = r6base.st d' → d = d' := fun kv kv' hEq => by
  have e0 : kv = kv' := d_inj (t := (.int .u64)) (congrArg (fun s : List AVal × List Ent => (s.1.getD 0 .undef)) hEq)
  rw [e0]
noncomputable def r6base.E : Entry := Entry.of [some (.int .u64)] r6base.st r6base.Pre (fun d => r6base.add d (r6base.F d)) r6base.out
noncomputable def r6base.call : r6base.D → Option r6base.X := fun d => r6base.E.run (r6base.st d).1 (r6base.st d).2
theorem r6base.run {d : r6base.D} (h : r6base.Pre d) : r6base.call d = some (r6base.add d (r6base.F d)) := Entry.of_run r6base.inj h
theorem r6base.does : Does Try.prog 34 r6base.E := Does.of (by kernel_rfl) (show Sound _ r6base.G from Sound.cons r6scale.does (Sound.nil _)) (by kernel_rfl) (by kernel_rfl) (by kernel_rfl) (LOk.fn 0 (by kernel_rfl) trivial) r6base.ok


theorem sum_two (p q : Int) : sumP [p, q] = mulP (tk p) (tk q) := by
  show mulP (mulP 1 (tk p)) (tk q) = _
  have : mulP 1 (tk p) = tk p := by
    have h := tk_ok p
    unfold mulP
    rw [Int.one_mul]
    exact Int.emod_eq_of_lt h.1 h.2
  rw [this]

/-! ### corsned/corsnedref06.Add -/
abbrev r6add.D := Int × Int
def r6add.st : r6add.D → List AVal × List Ent := fun (p, q) => ([.d (.int .u64) p, .d (.int .u64) q], [])
abbrev r6add.Y := Int
abbrev r6add.X := Int
def r6add.out : r6add.X → GRes := fun x => ⟨.d (.int .u64) x, [], []⟩
def r6add.add : r6add.D → r6add.Y → r6add.X := fun (p, q) y => y


def r6add.Pre : r6add.D → Prop := fun (p, q) => U64 p ∧ U64 q
def r6add.F : r6add.D → r6add.Y := fun (p, q) => sumP [p, q]

noncomputable def r6add.G : Gam := gcons 78 anyArgs r6taken.E (gcons 89 anyArgs r6times.E (gnil))
noncomputable def r6add.an : Ann := {
  objs := [],
  loops := fun r => { keep := [], sites := [], frz := [], data := [], owns := [] },
  outs := fun r b => { keep := [], sites := [], frz := [], data := [], owns := [] },
  sums := fun r => none,
  owns := [],
  trim := [],
  res := [] }
theorem r6add.eq {R : Type} (p : Int) (q : Int) (k : GRes → Option R) : arun Try.prog r6add.G r6add.an 0 Try.f80 (r6add.st (p, q)).1 (r6add.st (p, q)).2 k =
  obind (r6taken.call p) fun x1 =>
  obind (r6taken.call q) fun x2 =>
  obind (r6times.call (x1, x2)) fun x3 =>
  k (r6add.out x3) := by kernel_rfl


theorem r6add.ok : ∀ d, r6add.Pre d → arun Try.prog r6add.G r6add.an 0 Try.f80 (r6add.st d).1 (r6add.st d).2 some = some (r6add.out (r6add.add d (r6add.F d))) := by
  rintro ⟨p, q⟩ ⟨hp, hq⟩
  rw [r6add.eq, r6taken.run (d := p) hp, r6taken.run (d := q) hq]
  simp only [obind_some, r6taken.add, r6taken.F]
  rw [r6times.run (d := (tk p, tk q)) ⟨tk_ok p, (tk_ok q).u⟩]
  simp only [obind_some, r6times.add, r6times.F, r6add.add, r6add.F, sum_two]

theorem r6add.inj : ∀ d d', r6add.st d = r6add.st d' → d = d' := fun (p, q) (p', q') hEq => by
  have e0 : p = p' := d_inj (t := (.int .u64)) (congrArg (fun s : List AVal × List Ent => (s.1.getD 0 .undef)) hEq)
  have e1 : q = q' := d_inj (t := (.int .u64)) (congrArg (fun s : List AVal × List Ent => (s.1.getD 1 .undef)) hEq)
  rw [e0, e1]
noncomputable def r6add.E : Entry := Entry.of [some (.int .u64), some (.int .u64)] r6add.st r6add.Pre (fun d => r6add.add d (r6add.F d)) r6add.out
noncomputable def r6add.call : r6add.D → Option r6add.X := fun d => r6add.E.run (r6add.st d).1 (r6add.st d).2
theorem r6add.run {d : r6add.D} (h : r6add.Pre d) : r6add.call d = some (r6add.add d (r6add.F d)) := Entry.of_run r6add.inj h
theorem r6add.does : Does Try.prog 80 r6add.E := Does.of (by kernel_rfl) (show Sound _ r6add.G from Sound.cons r6taken.does (Sound.cons r6times.does (Sound.nil _))) (by kernel_rfl) (by kernel_rfl) (by kernel_rfl) (LOk.fn 0 (by kernel_rfl) trivial) r6add.ok

end Go.Ab
