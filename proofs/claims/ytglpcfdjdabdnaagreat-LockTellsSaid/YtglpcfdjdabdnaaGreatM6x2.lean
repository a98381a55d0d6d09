/-
  Texts put together: Po1, Po2, Po3, Si1, Lk1, Lk2, Lk3, Co1, Co2, Lw1, Lw2.
-/
import Derived.Test.YtglpcfdjdabdnaaGreatM6x1
namespace Go.Ab
open Go.Proofs
set_option maxRecDepth 100000
set_option linter.unusedVariables false
set_option linter.unusedSimpArgs false


/-- A number of the group's modulus. -/
def Pn (x : Int) : Prop := 0 ≤ x ∧ x < 4611686018427377339
def U64 (x : Int) : Prop := 0 ≤ x ∧ x < 18446744073709551616
theorem Pn.u {x : Int} (h : Pn x) : U64 x := ⟨h.1, by have := h.2; omega⟩
def mulP (a b : Int) : Int := a * b % 4611686018427377339
theorem mulP_ok (a b : Int) : Pn (mulP a b) := ⟨Int.emod_nonneg _ (by omega), Int.emod_lt_of_pos _ (by omega)⟩
/-- A power: by squares. -/
def pwF : Nat → Int → Nat → Int → Int
  | 0, _, _, out => out
  | f + 1, a, n, out => if n = 0 then out else pwF f (mulP a a) (n / 2) (if n % 2 = 1 then mulP out a else out)
def pw (a : Int) (n : Nat) : Int := pwF 64 a n 1
theorem pwF_zero (f : Nat) (a out : Int) : pwF f a 0 out = out := by cases f <;> rfl
theorem pwF_more : ∀ (f g : Nat) (a : Int) (n : Nat) (out : Int), n < 2 ^ f → n < 2 ^ g → pwF f a n out = pwF g a n out
  | 0, g, a, n, out, h, _ => by
    obtain rfl : n = 0 := by omega
    rw [pwF_zero, pwF_zero]
  | f + 1, 0, a, n, out, _, h => by
    obtain rfl : n = 0 := by omega
    rw [pwF_zero, pwF_zero]
  | f + 1, g + 1, a, n, out, h, h' => by
    have e : (2 : Nat) ^ (f + 1) = 2 ^ f * 2 := Nat.pow_succ 2 f
    have e' : (2 : Nat) ^ (g + 1) = 2 ^ g * 2 := Nat.pow_succ 2 g
    unfold pwF
    split
    · rfl
    · exact pwF_more f g _ _ _ (by omega) (by omega)
theorem pwF_ok : ∀ (f : Nat) (a : Int) (n : Nat) (out : Int), Pn out → Pn (pwF f a n out)
  | 0, _, _, _, h => h
  | f + 1, a, n, out, h => by
    unfold pwF
    split
    · exact h
    · refine pwF_ok f _ _ _ ?_
      split
      · exact mulP_ok _ _
      · exact h
theorem pw_ok (a : Int) (n : Nat) : Pn (pw a n) := pwF_ok _ _ _ _ ⟨by omega, by omega⟩

/-! ### corsned/point.times -/
abbrev ptimes.D := Int × Int
def ptimes.st : ptimes.D → List AVal × List Ent := fun (a, b) => ([.d (.int .u64) a, .d (.int .u64) b], [])
abbrev ptimes.Y := Int
abbrev ptimes.X := Int
def ptimes.out : ptimes.X → GRes := fun x => ⟨.d (.int .u64) x, [], []⟩
def ptimes.add : ptimes.D → ptimes.Y → ptimes.X := fun (a, b) y => y


def ptimes.Pre : ptimes.D → Prop := fun (a, b) => U64 a ∧ U64 b
def ptimes.F : ptimes.D → ptimes.Y := fun (a, b) => mulP a b

noncomputable def ptimes.G : Gam := gcons 168 anyArgs mul64.E (gcons 157 anyArgs rem64.E (gnil))
noncomputable def ptimes.an : Ann := {
  objs := [],
  loops := fun r => { keep := [], sites := [], frz := [], data := [], owns := [] },
  outs := fun r b => { keep := [], sites := [], frz := [], data := [], owns := [] },
  sums := fun r => none,
  owns := [],
  trim := [],
  res := [] }
theorem ptimes.eq {R : Type} (a : Int) (b : Int) (k : GRes → Option R) : arun Tryz.prog ptimes.G ptimes.an 0 Tryz.f151 (ptimes.st (a, b)).1 (ptimes.st (a, b)).2 k =
  obind (mul64.call (a, b)) fun x1 =>
  obind (rem64.call (x1.1, x1.2, (4611686018427377339 : Int))) fun x2 =>
  k (ptimes.out x2) := by kernel_rfl


theorem two_digits (n : Int) : n / 18446744073709551616 * 18446744073709551616 + n % 18446744073709551616 = n := by omega
theorem ptimes.ok : ∀ d, ptimes.Pre d → arun Tryz.prog ptimes.G ptimes.an 0 Tryz.f151 (ptimes.st d).1 (ptimes.st d).2 some = some (ptimes.out (ptimes.add d (ptimes.F d))) := by
  rintro ⟨a, b⟩ ⟨ha, hb⟩
  have ha : U64 a := ha
  have hb : U64 b := hb
  obtain ⟨m1, m2⟩ := mul_le ha.1 (show a ≤ 18446744073709551615 by have := ha.2; omega) hb.1 (show b ≤ 18446744073709551615 by have := hb.2; omega)
  have n : (18446744073709551615 : Int) * 18446744073709551615 = 340282366920938463426481119284349108225 := rfl
  rw [n] at m2
  have p : rem64.Pre (a * b / 18446744073709551616, a * b % 18446744073709551616, 4611686018427377339) := ⟨Or.inl rfl, by omega, by omega, by omega, by omega⟩
  rw [ptimes.eq, mul64.run (d := (a, b)) ⟨ha, hb⟩]
  simp only [obind_some, mul64.add, mul64.F]
  rw [rem64.run p]
  simp only [obind_some, rem64.add, rem64.F, two_digits]
  rfl

theorem ptimes.inj : ∀ d d', ptimes.st d = ptimes.st d' → d = d' := fun (a, b) (a', b') hEq => by
  have e0 : a = a' := d_inj (t := (.int .u64)) (congrArg (fun s : List AVal × List Ent => (s.1.getD 0 .undef)) hEq)
  have e1 : b = b' := d_inj (t := (.int .u64)) (congrArg (fun s : List AVal × List Ent => (s.1.getD 1 .undef)) hEq)
  rw [e0, e1]
noncomputable def ptimes.E : Entry := Entry.of [some (.int .u64), some (.int .u64)] ptimes.st ptimes.Pre (fun d => ptimes.add d (ptimes.F d)) ptimes.out
noncomputable def ptimes.call : ptimes.D → Option ptimes.X := fun d => ptimes.E.run (ptimes.st d).1 (ptimes.st d).2
theorem ptimes.run {d : ptimes.D} (h : ptimes.Pre d) : ptimes.call d = some (ptimes.add d (ptimes.F d)) := Entry.of_run ptimes.inj h
theorem ptimes.does : Does Tryz.prog 151 ptimes.E := Does.of (by kernel_rfl) (show Sound _ ptimes.G from Sound.cons mul64.does (Sound.cons rem64.does (Sound.nil _))) (by kernel_rfl) (by kernel_rfl) (by kernel_rfl) (LOk.fn 0 (by kernel_rfl) trivial) ptimes.ok

/-! ### corsned/point.power -/
abbrev ppower.L0.D := Int × Int × Int
def ppower.L0.st : ppower.L0.D → AS := fun (a_2, n_2, outv) => ⟨([.d (.int .u64) a_2, .d (.int .u64) n_2, .undef, .undef, .undef, .d (.int .u64) outv] ++ undN 14 []), [], (List.replicate 20 [])⟩
abbrev ppower.L0.Y0 := Int  -- out
abbrev ppower.L0.X0 := Int
def ppower.L0.ex0 : ppower.L0.X0 → Exit × AS := fun x => (.exit 0, ⟨(undN 5 ([.d (.int .u64) x] ++ undN 14 [])), [], (List.replicate 20 [])⟩)
abbrev ppower.L0.X := ppower.L0.X0
abbrev ppower.L0.Y := ppower.L0.Y0
def ppower.L0.out : ppower.L0.X → Out (Exit × AS) := fun x => .ok (ppower.L0.ex0 x)
def ppower.L0.add : ppower.L0.D → ppower.L0.Y → ppower.L0.X := fun (a_2, n_2, outv) y => y
abbrev ppower.D := Int × Int
def ppower.st : ppower.D → List AVal × List Ent := fun (a, n) => ([.d (.int .u64) a, .d (.int .u64) n], [])
abbrev ppower.Y := Int
abbrev ppower.X := Int
def ppower.out : ppower.X → GRes := fun x => ⟨.d (.int .u64) x, [], []⟩
def ppower.add : ppower.D → ppower.Y → ppower.X := fun (a, n) y => y


def ppower.L0.Pre : ppower.L0.D → Prop := fun (a, n, o) => U64 a ∧ U64 n ∧ Pn o
def ppower.L0.F : ppower.L0.D → ppower.L0.Y := fun (a, n, o) => pwF 64 a n.toNat o
def ppower.Pre : ppower.D → Prop := fun (a, n) => U64 a ∧ U64 n
def ppower.F : ppower.D → ppower.Y := fun (a, n) => pw a n.toNat

noncomputable def ppower.G : Gam := gcons 151 anyArgs ptimes.E (gnil)
noncomputable def ppower.L0.E : LEntry := LEntry.of ppower.L0.st ppower.L0.Pre (fun d => ppower.L0.add d (ppower.L0.F d)) ppower.L0.out
noncomputable def ppower.L0.call : ppower.L0.D → Option ppower.L0.X := fun d => ppower.L0.E.run (ppower.L0.st d)
noncomputable def ppower.an : Ann := {
  objs := [],
  loops := fun r => bif Nat.beq r 2 then { keep := [0, 1, 5], sites := [], frz := [], data := [], owns := [] } else { keep := [], sites := [], frz := [], data := [], owns := [] },
  outs := fun r b => bif Nat.beq r 2 then (bif b then { keep := [4], sites := [], frz := [], data := [], owns := [] } else { keep := [5], sites := [], frz := [], data := [], owns := [] }) else { keep := [], sites := [], frz := [], data := [], owns := [] },
  sums := fun r => bif Nat.beq r 2 then some ppower.L0.E else none,
  owns := [],
  trim := [],
  res := [] }
theorem ppower.L0.inj : ∀ d d', ppower.L0.st d = ppower.L0.st d' → d = d' := fun (a_2, n_2, outv) (a_2', n_2', outv') hEq => by
  have e0 : a_2 = a_2' := d_inj (t := (.int .u64)) (congrArg (fun s : AS => (s.slot 0)) hEq)
  have e1 : n_2 = n_2' := d_inj (t := (.int .u64)) (congrArg (fun s : AS => (s.slot 1)) hEq)
  have e2 : outv = outv' := d_inj (t := (.int .u64)) (congrArg (fun s : AS => (s.slot 5)) hEq)
  rw [e0, e1, e2]
theorem ppower.L0.run {d : ppower.L0.D} (h : ppower.L0.Pre d) : ppower.L0.call d = some (ppower.L0.add d (ppower.L0.F d)) := LEntry.of_run ppower.L0.inj h
theorem ppower.L0.byRounds (μ : ppower.L0.D → Nat) (h : ∀ d, ppower.L0.Pre d → (∃ d', ppower.L0.Pre d' ∧ μ d' < μ d ∧ ppower.L0.add d' (ppower.L0.F d') = ppower.L0.add d (ppower.L0.F d) ∧ ∀ {R : Type} (kn : AS → Option R) (kx : Exit → AS → Option R), lround Tryz.prog ppower.G ppower.an 0 Tryz.f116 0 (ppower.L0.st d) kn kx = kn (ppower.L0.st d')) ∨ (∀ {R : Type} (kn : AS → Option R) (kx : Exit → AS → Option R), lround Tryz.prog ppower.G ppower.an 0 Tryz.f116 0 (ppower.L0.st d) kn kx = kx (ppower.L0.ex0 (ppower.L0.add d (ppower.L0.F d))).1 (ppower.L0.ex0 (ppower.L0.add d (ppower.L0.F d))).2)) : ∀ d, ppower.L0.Pre d → ∃ n, lrun Tryz.prog ppower.G ppower.an 0 Tryz.f116 0 n (ppower.L0.st d) (fun e s => some (e, s)) = (ppower.L0.out (ppower.L0.add d (ppower.L0.F d))).eval := lrun_one (F := fun d => ppower.L0.add d (ppower.L0.F d)) μ h
theorem ppower.L0.step {R : Type} (a_2 : Int) (n_2 : Int) (outv : Int) (kn : AS → Option R) (kx : Exit → AS → Option R) : lround Tryz.prog ppower.G ppower.an 0 Tryz.f116 0 (ppower.L0.st (a_2, n_2, outv)) kn kx =
  sel ((igt n_2 (0 : Int))) (
   sel ((ieq (bitop .and .u64 n_2 (1 : Int)) (1 : Int))) (
    obind (ptimes.call (outv, a_2)) fun x1 =>
    obind (ptimes.call (a_2, a_2)) fun x2 =>
    kn (ppower.L0.st (x2, (ishr .u64 n_2 (1 : Int)), x1))) (
    obind (ptimes.call (a_2, a_2)) fun x3 =>
    kn (ppower.L0.st (x3, (ishr .u64 n_2 (1 : Int)), outv)))) (
   kx (ppower.L0.ex0 outv).1 (ppower.L0.ex0 outv).2) := by kernel_rfl
theorem ppower.eq {R : Type} (a : Int) (n : Int) (k : GRes → Option R) : arun Tryz.prog ppower.G ppower.an 0 Tryz.f116 (ppower.st (a, n)).1 (ppower.st (a, n)).2 k =
  obind (ppower.L0.call (a, n, (1 : Int))) fun x4 =>
  k (ppower.out x4) := by kernel_rfl


theorem shr1 {n : Int} (h : U64 n) : ishr .u64 n 1 = n / 2 := shr_u64 1 (by rfl) (by omega)
theorem ppower.L0.ok : ∀ d, ppower.L0.Pre d → ∃ n, lrun Tryz.prog ppower.G ppower.an 0 Tryz.f116 0 n (ppower.L0.st d) (fun e s => some (e, s)) = (ppower.L0.out (ppower.L0.add d (ppower.L0.F d))).eval := by
  refine ppower.L0.byRounds (fun (a, n, o) => n.toNat) ?_
  rintro ⟨a, n, o⟩ ⟨ha, hn, ho⟩
  have ha : U64 a := ha
  have hn : U64 n := hn
  have ho : Pn o := ho
  have n0 := hn.1
  have n1 := hn.2
  by_cases h : 0 < n
  · left
    have e : ppower.L0.F (a, n, o) = ppower.L0.F (mulP a a, n / 2, if n % 2 = 1 then mulP o a else o) := by
      show pwF 64 a n.toNat o = pwF 64 (mulP a a) (n / 2).toNat _
      rw [pwF_more 64 65 a n.toNat o (by omega) (by omega)]
      have t1 : (n / 2).toNat = n.toNat / 2 := by omega
      have t2 : (n % 2 = 1) = (n.toNat % 2 = 1) := by apply propext; omega
      rw [t1]
      simp only [t2]
      show (if n.toNat = 0 then o else _) = _
      rw [if_neg (by omega)]
    refine ⟨(mulP a a, n / 2, if n % 2 = 1 then mulP o a else o), ⟨(mulP_ok a a).u, ⟨by omega, by omega⟩, ?_⟩, by show (n / 2).toNat < n.toNat; omega, ?_, fun kn kx => ?_⟩
    · show Pn (if n % 2 = 1 then mulP o a else o)
      split
      · exact mulP_ok _ _
      · exact ho
    · exact congrArg _ e.symm
    · rw [ppower.L0.step, igt_true h, shr1 hn, and1 n0 n1, ptimes.run (d := (o, a)) ⟨ho.u, ha⟩, ptimes.run (d := (a, a)) ⟨ha, ha⟩]
      by_cases h1 : n % 2 = 1
      · rw [ieq_true h1, if_pos h1]; rfl
      · rw [ieq_false h1, if_neg h1]; rfl
  · right
    intro R kn kx
    obtain rfl : n = 0 := by omega
    rw [ppower.L0.step, igt_false (by omega)]
    simp only [sel_false, ppower.L0.add, ppower.L0.F]
    rw [show pwF 64 a (Int.toNat 0) o = o from pwF_zero _ _ _]
theorem ppower.ok : ∀ d, ppower.Pre d → arun Tryz.prog ppower.G ppower.an 0 Tryz.f116 (ppower.st d).1 (ppower.st d).2 some = some (ppower.out (ppower.add d (ppower.F d))) := by
  rintro ⟨a, n⟩ ⟨ha, hn⟩
  rw [ppower.eq, ppower.L0.run (d := (a, n, 1)) ⟨ha, hn, by omega, by omega⟩]
  rfl

theorem ppower.inj : ∀ d d', ppower.st d = ppower.st d' → d = d' := fun (a, n) (a', n') hEq => by
  have e0 : a = a' := d_inj (t := (.int .u64)) (congrArg (fun s : List AVal × List Ent => (s.1.getD 0 .undef)) hEq)
  have e1 : n = n' := d_inj (t := (.int .u64)) (congrArg (fun s : List AVal × List Ent => (s.1.getD 1 .undef)) hEq)
  rw [e0, e1]
noncomputable def ppower.E : Entry := Entry.of [some (.int .u64), some (.int .u64)] ppower.st ppower.Pre (fun d => ppower.add d (ppower.F d)) ppower.out
noncomputable def ppower.call : ppower.D → Option ppower.X := fun d => ppower.E.run (ppower.st d).1 (ppower.st d).2
theorem ppower.run {d : ppower.D} (h : ppower.Pre d) : ppower.call d = some (ppower.add d (ppower.F d)) := Entry.of_run ppower.inj h
theorem ppower.does : Does Tryz.prog 116 ppower.E := Does.of (by kernel_rfl) (show Sound _ ppower.G from Sound.cons ptimes.does (Sound.nil _)) (by kernel_rfl) (by kernel_rfl) (by kernel_rfl) (LOk.fn 1 (by kernel_rfl) (And.intro (LDo.of (by kernel_rfl) ppower.L0.ok) trivial)) ppower.ok

end Go.Ab
namespace Go.Ab
open Go.Proofs
set_option maxRecDepth 100000
set_option linter.unusedVariables false
set_option linter.unusedSimpArgs false


/-- Is it a point? -/
def isP (p : Int) : Bool := decide (0 < p ∧ p < 4611686018427377339) && decide (pw p 2305843009213688669 = 1)
/-- A point, or the null point. -/
def tk (p : Int) : Int := if isP p then p else 1
theorem tk_ok (p : Int) : Pn (tk p) := by
  unfold tk
  split
  · rename_i h
    simp only [isP, Bool.and_eq_true, decide_eq_true_eq] at h
    exact ⟨by omega, by omega⟩
  · exact ⟨by omega, by omega⟩
def scaleP (p k : Int) : Int := pw (tk p) (k % 2305843009213688669).toNat
def baseP (k : Int) : Int := scaleP 4 k
def negP (p : Int) : Int := pw (tk p) 2305843009213688668
def sumP (l : List Int) : Int := l.foldl (fun o p => mulP o (tk p)) 1
theorem sumF_ok (l : List Int) (o : Int) (h : Pn o) : Pn (l.foldl (fun o p => mulP o (tk p)) o) := by
  induction l generalizing o with
  | nil => exact h
  | cons p l ih => exact ih _ (mulP_ok _ _)
theorem sumP_ok (l : List Int) : Pn (sumP l) := sumF_ok l 1 ⟨by omega, by omega⟩

/-! ### corsned/point.Right -/
abbrev pright.D := Int
def pright.st : pright.D → List AVal × List Ent := fun p => ([.d (.int .u64) p], [])
abbrev pright.Y := Bool
abbrev pright.X := Bool
def pright.out : pright.X → GRes := fun x => ⟨.d .bool x, [], []⟩
def pright.add : pright.D → pright.Y → pright.X := fun p y => y


def pright.Pre : pright.D → Prop := fun p => U64 p
def pright.F : pright.D → pright.Y := fun p => isP p

noncomputable def pright.G : Gam := gcons 116 anyArgs ppower.E (gnil)
noncomputable def pright.an : Ann := {
  objs := [],
  loops := fun r => { keep := [], sites := [], frz := [], data := [], owns := [] },
  outs := fun r b => { keep := [], sites := [], frz := [], data := [], owns := [] },
  sums := fun r => none,
  owns := [],
  trim := [],
  res := [] }
theorem pright.eq {R : Type} (p : Int) (k : GRes → Option R) : arun Tryz.prog pright.G pright.an 0 Tryz.f62 (pright.st p).1 (pright.st p).2 k =
  sel ((igt p (0 : Int))) (
   sel ((ilt p (4611686018427377339 : Int))) (
    obind (ppower.call (p, (2305843009213688669 : Int))) fun x1 =>
    k (pright.out (ieq x1 (1 : Int)))) (
    k (pright.out false))) (
   k (pright.out false)) := by kernel_rfl


theorem pright.ok : ∀ d, pright.Pre d → arun Tryz.prog pright.G pright.an 0 Tryz.f62 (pright.st d).1 (pright.st d).2 some = some (pright.out (pright.add d (pright.F d))) := by
  intro p hp
  have hp : U64 p := hp
  rw [pright.eq, ppower.run (d := (p, 2305843009213688669)) ⟨hp, by constructor <;> decide⟩]
  simp only [obind_some, ppower.add, ppower.F, pright.add, pright.F, isP]
  by_cases h : 0 < p
  · rw [igt_true h, sel_true]
    by_cases h2 : p < 4611686018427377339
    · rw [ilt_true h2, sel_true, dec_true ⟨h, h2⟩, Bool.true_and]
      rfl
    · rw [ilt_false h2, sel_false, dec_false (fun x => h2 x.2), Bool.false_and]
  · rw [igt_false h, sel_false, dec_false (fun x => h x.1), Bool.false_and]

theorem pright.inj : ∀ d d', pright.st d = pright.st d' → d = d' := fun p p' hEq => by
  have e0 : p = p' := d_inj (t := (.int .u64)) (congrArg (fun s : List AVal × List Ent => (s.1.getD 0 .undef)) hEq)
  rw [e0]
noncomputable def pright.E : Entry := Entry.of [some (.int .u64)] pright.st pright.Pre (fun d => pright.add d (pright.F d)) pright.out
noncomputable def pright.call : pright.D → Option pright.X := fun d => pright.E.run (pright.st d).1 (pright.st d).2
theorem pright.run {d : pright.D} (h : pright.Pre d) : pright.call d = some (pright.add d (pright.F d)) := Entry.of_run pright.inj h
theorem pright.does : Does Tryz.prog 62 pright.E := Does.of (by kernel_rfl) (show Sound _ pright.G from Sound.cons ppower.does (Sound.nil _)) (by kernel_rfl) (by kernel_rfl) (by kernel_rfl) (LOk.fn 0 (by kernel_rfl) trivial) pright.ok

/-! ### corsned/point.taken -/
abbrev ptaken.D := Int
def ptaken.st : ptaken.D → List AVal × List Ent := fun p => ([.d (.int .u64) p], [])
abbrev ptaken.Y := Int
abbrev ptaken.X := Int
def ptaken.out : ptaken.X → GRes := fun x => ⟨.d (.int .u64) x, [], []⟩
def ptaken.add : ptaken.D → ptaken.Y → ptaken.X := fun p y => y


def ptaken.Pre : ptaken.D → Prop := fun p => U64 p
def ptaken.F : ptaken.D → ptaken.Y := fun p => tk p

noncomputable def ptaken.G : Gam := gcons 62 anyArgs pright.E (gnil)
noncomputable def ptaken.an : Ann := {
  objs := [],
  loops := fun r => { keep := [], sites := [], frz := [], data := [], owns := [] },
  outs := fun r b => { keep := [], sites := [], frz := [], data := [], owns := [] },
  sums := fun r => none,
  owns := [],
  trim := [],
  res := [] }
theorem ptaken.eq {R : Type} (p : Int) (k : GRes → Option R) : arun Tryz.prog ptaken.G ptaken.an 0 Tryz.f147 (ptaken.st p).1 (ptaken.st p).2 k =
  obind (pright.call p) fun x1 =>
  sel (x1) (
   k (ptaken.out p)) (
   k (ptaken.out (1 : Int))) := by kernel_rfl


theorem ptaken.ok : ∀ d, ptaken.Pre d → arun Tryz.prog ptaken.G ptaken.an 0 Tryz.f147 (ptaken.st d).1 (ptaken.st d).2 some = some (ptaken.out (ptaken.add d (ptaken.F d))) := by
  intro p hp
  rw [ptaken.eq, pright.run (d := p) hp]
  simp only [obind_some, pright.add, pright.F, ptaken.add, ptaken.F, tk]
  cases isP p <;> rfl

theorem ptaken.inj : ∀ d d', ptaken.st d = ptaken.st d' → d = d' := fun p p' hEq => by
  have e0 : p = p' := d_inj (t := (.int .u64)) (congrArg (fun s : List AVal × List Ent => (s.1.getD 0 .undef)) hEq)
  rw [e0]
noncomputable def ptaken.E : Entry := Entry.of [some (.int .u64)] ptaken.st ptaken.Pre (fun d => ptaken.add d (ptaken.F d)) ptaken.out
noncomputable def ptaken.call : ptaken.D → Option ptaken.X := fun d => ptaken.E.run (ptaken.st d).1 (ptaken.st d).2
theorem ptaken.run {d : ptaken.D} (h : ptaken.Pre d) : ptaken.call d = some (ptaken.add d (ptaken.F d)) := Entry.of_run ptaken.inj h
theorem ptaken.does : Does Tryz.prog 147 ptaken.E := Does.of (by kernel_rfl) (show Sound _ ptaken.G from Sound.cons pright.does (Sound.nil _)) (by kernel_rfl) (by kernel_rfl) (by kernel_rfl) (LOk.fn 0 (by kernel_rfl) trivial) ptaken.ok

/-! ### corsned/point.Scale -/
abbrev pscale.D := Int × Int
def pscale.st : pscale.D → List AVal × List Ent := fun (p, kv) => ([.d (.int .u64) p, .d (.int .u64) kv], [])
abbrev pscale.Y := Int
abbrev pscale.X := Int
def pscale.out : pscale.X → GRes := fun x => ⟨.d (.int .u64) x, [], []⟩
def pscale.add : pscale.D → pscale.Y → pscale.X := fun (p, kv) y => y


def pscale.Pre : pscale.D → Prop := fun (p, k) => U64 p ∧ U64 k
def pscale.F : pscale.D → pscale.Y := fun (p, k) => scaleP p k

noncomputable def pscale.G : Gam := gcons 147 anyArgs ptaken.E (gcons 116 anyArgs ppower.E (gnil))
noncomputable def pscale.an : Ann := {
  objs := [],
  loops := fun r => { keep := [], sites := [], frz := [], data := [], owns := [] },
  outs := fun r b => { keep := [], sites := [], frz := [], data := [], owns := [] },
  sums := fun r => none,
  owns := [],
  trim := [],
  res := [] }
theorem pscale.eq {R : Type} (p : Int) (kv : Int) (k : GRes → Option R) : arun Tryz.prog pscale.G pscale.an 0 Tryz.f106 (pscale.st (p, kv)).1 (pscale.st (p, kv)).2 k =
  obind (ptaken.call p) fun x1 =>
  obind (ppower.call (x1, (irem kv (2305843009213688669 : Int)))) fun x2 =>
  k (pscale.out x2) := by kernel_rfl


theorem pscale.ok : ∀ d, pscale.Pre d → arun Tryz.prog pscale.G pscale.an 0 Tryz.f106 (pscale.st d).1 (pscale.st d).2 some = some (pscale.out (pscale.add d (pscale.F d))) := by
  rintro ⟨p, k⟩ ⟨hp, hk⟩
  have hk : U64 k := hk
  have e := irem_nn (y := 2305843009213688669) hk.1
  have b : U64 (k % 2305843009213688669) := ⟨by omega, by omega⟩
  rw [pscale.eq, ptaken.run (d := p) hp, e]
  simp only [obind_some, ptaken.add, ptaken.F]
  rw [ppower.run (d := (tk p, k % 2305843009213688669)) ⟨(tk_ok p).u, b⟩]
  rfl

theorem pscale.inj : ∀ d d', pscale.st d = pscale.st d' → d = d' := fun (p, kv) (p', kv') hEq => by
  have e0 : p = p' := d_inj (t := (.int .u64)) (congrArg (fun s : List AVal × List Ent => (s.1.getD 0 .undef)) hEq)
  have e1 : kv = kv' := d_inj (t := (.int .u64)) (congrArg (fun s : List AVal × List Ent => (s.1.getD 1 .undef)) hEq)
  rw [e0, e1]
noncomputable def pscale.E : Entry := Entry.of [some (.int .u64), some (.int .u64)] pscale.st pscale.Pre (fun d => pscale.add d (pscale.F d)) pscale.out
noncomputable def pscale.call : pscale.D → Option pscale.X := fun d => pscale.E.run (pscale.st d).1 (pscale.st d).2
theorem pscale.run {d : pscale.D} (h : pscale.Pre d) : pscale.call d = some (pscale.add d (pscale.F d)) := Entry.of_run pscale.inj h
theorem pscale.does : Does Tryz.prog 106 pscale.E := Does.of (by kernel_rfl) (show Sound _ pscale.G from Sound.cons ptaken.does (Sound.cons ppower.does (Sound.nil _))) (by kernel_rfl) (by kernel_rfl) (by kernel_rfl) (LOk.fn 0 (by kernel_rfl) trivial) pscale.ok

/-! ### corsned/point.Base -/
abbrev pbase.D := Int
def pbase.st : pbase.D → List AVal × List Ent := fun kv => ([.d (.int .u64) kv], [])
abbrev pbase.Y := Int
abbrev pbase.X := Int
def pbase.out : pbase.X → GRes := fun x => ⟨.d (.int .u64) x, [], []⟩
def pbase.add : pbase.D → pbase.Y → pbase.X := fun kv y => y


def pbase.Pre : pbase.D → Prop := fun k => U64 k
def pbase.F : pbase.D → pbase.Y := fun k => baseP k

noncomputable def pbase.G : Gam := gcons 106 anyArgs pscale.E (gnil)
noncomputable def pbase.an : Ann := {
  objs := [],
  loops := fun r => { keep := [], sites := [], frz := [], data := [], owns := [] },
  outs := fun r b => { keep := [], sites := [], frz := [], data := [], owns := [] },
  sums := fun r => none,
  owns := [],
  trim := [],
  res := [] }
theorem pbase.eq {R : Type} (kv : Int) (k : GRes → Option R) : arun Tryz.prog pbase.G pbase.an 0 Tryz.f44 (pbase.st kv).1 (pbase.st kv).2 k =
  obind (pscale.call ((4 : Int), kv)) fun x1 =>
  k (pbase.out x1) := by kernel_rfl


theorem pbase.ok : ∀ d, pbase.Pre d → arun Tryz.prog pbase.G pbase.an 0 Tryz.f44 (pbase.st d).1 (pbase.st d).2 some = some (pbase.out (pbase.add d (pbase.F d))) := by
  intro k hk
  rw [pbase.eq, pscale.run (d := (4, k)) ⟨⟨by omega, by omega⟩, hk⟩]
  rfl

theorem pbase.inj : ∀ d d', pbase.st d = pbase.st d' → d = d' := fun kv kv' hEq => by
  have e0 : kv = kv' := d_inj (t := (.int .u64)) (congrArg (fun s : List AVal × List Ent => (s.1.getD 0 .undef)) hEq)
  rw [e0]
noncomputable def pbase.E : Entry := Entry.of [some (.int .u64)] pbase.st pbase.Pre (fun d => pbase.add d (pbase.F d)) pbase.out
noncomputable def pbase.call : pbase.D → Option pbase.X := fun d => pbase.E.run (pbase.st d).1 (pbase.st d).2
theorem pbase.run {d : pbase.D} (h : pbase.Pre d) : pbase.call d = some (pbase.add d (pbase.F d)) := Entry.of_run pbase.inj h
theorem pbase.does : Does Tryz.prog 44 pbase.E := Does.of (by kernel_rfl) (show Sound _ pbase.G from Sound.cons pscale.does (Sound.nil _)) (by kernel_rfl) (by kernel_rfl) (by kernel_rfl) (LOk.fn 0 (by kernel_rfl) trivial) pbase.ok

/-! ### corsned/point.Neg -/
abbrev pneg.D := Int
def pneg.st : pneg.D → List AVal × List Ent := fun p => ([.d (.int .u64) p], [])
abbrev pneg.Y := Int
abbrev pneg.X := Int
def pneg.out : pneg.X → GRes := fun x => ⟨.d (.int .u64) x, [], []⟩
def pneg.add : pneg.D → pneg.Y → pneg.X := fun p y => y


def pneg.Pre : pneg.D → Prop := fun p => U64 p
def pneg.F : pneg.D → pneg.Y := fun p => negP p

noncomputable def pneg.G : Gam := gcons 147 anyArgs ptaken.E (gcons 116 anyArgs ppower.E (gnil))
noncomputable def pneg.an : Ann := {
  objs := [],
  loops := fun r => { keep := [], sites := [], frz := [], data := [], owns := [] },
  outs := fun r b => { keep := [], sites := [], frz := [], data := [], owns := [] },
  sums := fun r => none,
  owns := [],
  trim := [],
  res := [] }
theorem pneg.eq {R : Type} (p : Int) (k : GRes → Option R) : arun Tryz.prog pneg.G pneg.an 0 Tryz.f146 (pneg.st p).1 (pneg.st p).2 k =
  obind (ptaken.call p) fun x1 =>
  obind (ppower.call (x1, (2305843009213688668 : Int))) fun x2 =>
  k (pneg.out x2) := by kernel_rfl


theorem pneg.ok : ∀ d, pneg.Pre d → arun Tryz.prog pneg.G pneg.an 0 Tryz.f146 (pneg.st d).1 (pneg.st d).2 some = some (pneg.out (pneg.add d (pneg.F d))) := by
  intro p hp
  rw [pneg.eq, ptaken.run (d := p) hp]
  simp only [obind_some, ptaken.add, ptaken.F]
  rw [ppower.run (d := (tk p, 2305843009213688668)) ⟨(tk_ok p).u, by constructor <;> decide⟩]
  rfl

theorem pneg.inj : ∀ d d', pneg.st d = pneg.st d' → d = d' := fun p p' hEq => by
  have e0 : p = p' := d_inj (t := (.int .u64)) (congrArg (fun s : List AVal × List Ent => (s.1.getD 0 .undef)) hEq)
  rw [e0]
noncomputable def pneg.E : Entry := Entry.of [some (.int .u64)] pneg.st pneg.Pre (fun d => pneg.add d (pneg.F d)) pneg.out
noncomputable def pneg.call : pneg.D → Option pneg.X := fun d => pneg.E.run (pneg.st d).1 (pneg.st d).2
theorem pneg.run {d : pneg.D} (h : pneg.Pre d) : pneg.call d = some (pneg.add d (pneg.F d)) := Entry.of_run pneg.inj h
theorem pneg.does : Does Tryz.prog 146 pneg.E := Does.of (by kernel_rfl) (show Sound _ pneg.G from Sound.cons ptaken.does (Sound.cons ppower.does (Sound.nil _))) (by kernel_rfl) (by kernel_rfl) (by kernel_rfl) (LOk.fn 0 (by kernel_rfl) trivial) pneg.ok

/-! ### corsned/point.All -/
abbrev pall.L0.D := Int × (List Int) × Int × Int
def pall.L0.st : pall.L0.D → AS := fun (outv, t6, t7, t8) => ⟨([.undef, .undef, .undef, .d (.int .u64) outv, .undef, .undef, .d (.slice (.int .u64)) t6, .d (.int .i64) t7, .d (.int .i64) t8] ++ undN 9 []), [], (List.replicate 18 [])⟩
abbrev pall.L0.Y0 := Int  -- out
abbrev pall.L0.X0 := Int
def pall.L0.ex0 : pall.L0.X0 → Exit × AS := fun x => (.exit 0, ⟨([.undef, .undef, .undef, .d (.int .u64) x] ++ undN 14 []), [], (List.replicate 18 [])⟩)
abbrev pall.L0.X := pall.L0.X0
abbrev pall.L0.Y := pall.L0.Y0
def pall.L0.out : pall.L0.X → Out (Exit × AS) := fun x => .ok (pall.L0.ex0 x)
def pall.L0.add : pall.L0.D → pall.L0.Y → pall.L0.X := fun (outv, t6, t7, t8) y => y
abbrev pall.D := (List Int)
def pall.st : pall.D → List AVal × List Ent := fun l => ([.d (.slice (.int .u64)) l], [])
abbrev pall.Y := Int
abbrev pall.X := Int
def pall.out : pall.X → GRes := fun x => ⟨.d (.int .u64) x, [], []⟩
def pall.add : pall.D → pall.Y → pall.X := fun l y => y


def pall.L0.Pre : pall.L0.D → Prop := fun (o, l, n, i) => Pn o ∧ (∀ x ∈ l, U64 x) ∧ l.length ≤ 1000000000 ∧ n = l.length ∧ ∃ k : Nat, k ≤ l.length ∧ i = k
def pall.L0.F : pall.L0.D → pall.L0.Y := fun (o, l, n, i) => (l.drop i.toNat).foldl (fun o p => mulP o (tk p)) o
def pall.Pre : pall.D → Prop := fun l => (∀ x ∈ l, U64 x) ∧ l.length ≤ 1000000000
def pall.F : pall.D → pall.Y := fun l => sumP l

noncomputable def pall.G : Gam := gcons 147 anyArgs ptaken.E (gcons 151 anyArgs ptimes.E (gnil))
noncomputable def pall.L0.E : LEntry := LEntry.of pall.L0.st pall.L0.Pre (fun d => pall.L0.add d (pall.L0.F d)) pall.L0.out
noncomputable def pall.L0.call : pall.L0.D → Option pall.L0.X := fun d => pall.L0.E.run (pall.L0.st d)
noncomputable def pall.an : Ann := {
  objs := [],
  loops := fun r => bif Nat.beq r 3 then { keep := [3, 6, 7, 8], sites := [], frz := [], data := [], owns := [] } else { keep := [], sites := [], frz := [], data := [], owns := [] },
  outs := fun r b => bif Nat.beq r 3 then (bif b then { keep := [2], sites := [], frz := [], data := [], owns := [] } else { keep := [3], sites := [], frz := [], data := [], owns := [] }) else { keep := [], sites := [], frz := [], data := [], owns := [] },
  sums := fun r => bif Nat.beq r 3 then some pall.L0.E else none,
  owns := [],
  trim := [],
  res := [] }
theorem pall.L0.inj : ∀ d d', pall.L0.st d = pall.L0.st d' → d = d' := fun (outv, t6, t7, t8) (outv', t6', t7', t8') hEq => by
  have e0 : outv = outv' := d_inj (t := (.int .u64)) (congrArg (fun s : AS => (s.slot 3)) hEq)
  have e1 : t6 = t6' := d_inj (t := (.slice (.int .u64))) (congrArg (fun s : AS => (s.slot 6)) hEq)
  have e2 : t7 = t7' := d_inj (t := (.int .i64)) (congrArg (fun s : AS => (s.slot 7)) hEq)
  have e3 : t8 = t8' := d_inj (t := (.int .i64)) (congrArg (fun s : AS => (s.slot 8)) hEq)
  rw [e0, e1, e2, e3]
theorem pall.L0.run {d : pall.L0.D} (h : pall.L0.Pre d) : pall.L0.call d = some (pall.L0.add d (pall.L0.F d)) := LEntry.of_run pall.L0.inj h
theorem pall.L0.byRounds (μ : pall.L0.D → Nat) (h : ∀ d, pall.L0.Pre d → (∃ d', pall.L0.Pre d' ∧ μ d' < μ d ∧ pall.L0.add d' (pall.L0.F d') = pall.L0.add d (pall.L0.F d) ∧ ∀ {R : Type} (kn : AS → Option R) (kx : Exit → AS → Option R), lround Tryz.prog pall.G pall.an 0 Tryz.f144 0 (pall.L0.st d) kn kx = kn (pall.L0.st d')) ∨ (∀ {R : Type} (kn : AS → Option R) (kx : Exit → AS → Option R), lround Tryz.prog pall.G pall.an 0 Tryz.f144 0 (pall.L0.st d) kn kx = kx (pall.L0.ex0 (pall.L0.add d (pall.L0.F d))).1 (pall.L0.ex0 (pall.L0.add d (pall.L0.F d))).2)) : ∀ d, pall.L0.Pre d → ∃ n, lrun Tryz.prog pall.G pall.an 0 Tryz.f144 0 n (pall.L0.st d) (fun e s => some (e, s)) = (pall.L0.out (pall.L0.add d (pall.L0.F d))).eval := lrun_one (F := fun d => pall.L0.add d (pall.L0.F d)) μ h
theorem pall.L0.step {R : Type} (outv : Int) (t6 : (List Int)) (t7 : Int) (t8 : Int) (kn : AS → Option R) (kx : Exit → AS → Option R) : lround Tryz.prog pall.G pall.an 0 Tryz.f144 0 (pall.L0.st (outv, t6, t7, t8)) kn kx =
  sel ((ilt t8 t7)) (
   sel (inb t8 (((List.length t6) : Nat) : Int)) (
   obind (ptaken.call (nth (.int .u64) t6 (Int.toNat t8))) fun x1 =>
   obind (ptimes.call (outv, x1)) fun x2 =>
   kn (pall.L0.st (x2, t6, t7, (iadd .i64 t8 (1 : Int))))) none) (
   kx (pall.L0.ex0 outv).1 (pall.L0.ex0 outv).2) := by kernel_rfl
theorem pall.eq {R : Type} (l : (List Int)) (k : GRes → Option R) : arun Tryz.prog pall.G pall.an 0 Tryz.f144 (pall.st l).1 (pall.st l).2 k =
  obind (pall.L0.call ((1 : Int), l, (((List.length l) : Nat) : Int), (0 : Int))) fun x3 =>
  k (pall.out x3) := by kernel_rfl


theorem pall.L0.ok : ∀ d, pall.L0.Pre d → ∃ n, lrun Tryz.prog pall.G pall.an 0 Tryz.f144 0 n (pall.L0.st d) (fun e s => some (e, s)) = (pall.L0.out (pall.L0.add d (pall.L0.F d))).eval := by
  refine pall.L0.byRounds (fun (o, l, n, i) => l.length - i.toNat) ?_
  rintro ⟨o, l, n, i⟩ ⟨ho, hl, hb, rfl, k, hk, rfl⟩
  have ho : Pn o := ho
  have hb : l.length ≤ 1000000000 := hb
  have hk : k ≤ l.length := hk
  by_cases h : k < l.length
  · left
    have hx := hl _ (List.getElem_mem h)
    have n1 : nth (.int .u64) l k = l[k] := nth_lt (t := .int .u64) h
    refine ⟨(mulP o (tk l[k]), l, l.length, ((k + 1 : Nat) : Int)), ⟨mulP_ok _ _, hl, hb, rfl, k + 1, by omega, rfl⟩, by simp only [Int.toNat_natCast]; omega, ?_, fun kn kx => ?_⟩
    · simp only [pall.L0.add, pall.L0.F, Int.toNat_natCast]
      rw [List.drop_eq_getElem_cons h]
      rfl
    · rw [pall.L0.step]
      simp (disch := omega) only [↓N.lt, ↓N.le, ↓N.gt, ↓N.ge, ↓N.eq, ↓N.ne, ↓N.ib, ↓N.ic, ↓N.nn, ↓N.nz, ↓N.dc, ↓N.rm, ↓N.an, ↓N.or, ↓N.no, ↓if_pos, ↓if_neg, ↓sel_true, ↓sel_false, ↓obind_some, if_pos, if_neg, obind_some, N.aNN, N.aNL, N.aLN, N.sNN, N.sNL, N.sLN, N.mNN, N.mNL, N.mLN, N.qNN, N.qNL, N.rNN, N.rNL, N.cN, N.cL, N.tL, Int.toNat_natCast, if_true, if_false, and_self, true_and, and_true, n1]
      rw [ptaken.run (d := l[k]) hx]
      simp only [obind_some, ptaken.add, ptaken.F]
      rw [ptimes.run (d := (o, tk l[k])) ⟨ho.u, (tk_ok _).u⟩]
      rfl
  · right
    obtain rfl : k = l.length := by omega
    intro R kn kx
    rw [pall.L0.step]
    simp (disch := omega) only [↓N.lt, ↓N.le, ↓N.gt, ↓N.ge, ↓N.eq, ↓N.ne, ↓N.ib, ↓N.ic, ↓N.nn, ↓N.nz, ↓N.dc, ↓N.rm, ↓N.an, ↓N.or, ↓N.no, ↓if_pos, ↓if_neg, ↓sel_true, ↓sel_false, ↓obind_some, if_pos, if_neg, obind_some, N.aNN, N.aNL, N.aLN, N.sNN, N.sNL, N.sLN, N.mNN, N.mNL, N.mLN, N.qNN, N.qNL, N.rNN, N.rNL, N.cN, N.cL, N.tL, Int.toNat_natCast, if_true, if_false, and_self, true_and, and_true, pall.L0.add, pall.L0.F, List.drop_length]
    rfl
theorem pall.ok : ∀ d, pall.Pre d → arun Tryz.prog pall.G pall.an 0 Tryz.f144 (pall.st d).1 (pall.st d).2 some = some (pall.out (pall.add d (pall.F d))) := by
  rintro l ⟨hl, hb⟩
  rw [pall.eq, pall.L0.run (d := (1, l, l.length, 0)) ⟨⟨by omega, by omega⟩, hl, hb, rfl, 0, by omega, rfl⟩]
  rfl

theorem pall.inj : ∀ d d', pall.st d = pall.st d' → d = d' := fun l l' hEq => by
  have e0 : l = l' := d_inj (t := (.slice (.int .u64))) (congrArg (fun s : List AVal × List Ent => (s.1.getD 0 .undef)) hEq)
  rw [e0]
noncomputable def pall.E : Entry := Entry.of [some (.slice (.int .u64))] pall.st pall.Pre (fun d => pall.add d (pall.F d)) pall.out
noncomputable def pall.call : pall.D → Option pall.X := fun d => pall.E.run (pall.st d).1 (pall.st d).2
theorem pall.run {d : pall.D} (h : pall.Pre d) : pall.call d = some (pall.add d (pall.F d)) := Entry.of_run pall.inj h
theorem pall.does : Does Tryz.prog 144 pall.E := Does.of (by kernel_rfl) (show Sound _ pall.G from Sound.cons ptaken.does (Sound.cons ptimes.does (Sound.nil _))) (by kernel_rfl) (by kernel_rfl) (by kernel_rfl) (LOk.fn 1 (by kernel_rfl) (And.intro (LDo.of (by kernel_rfl) pall.L0.ok) trivial)) pall.ok

/-! ### corsned/point.Add -/
abbrev padd.D := Int × Int
def padd.st : padd.D → List AVal × List Ent := fun (p, q) => ([.d (.int .u64) p, .d (.int .u64) q], [])
abbrev padd.Y := Int
abbrev padd.X := Int
def padd.out : padd.X → GRes := fun x => ⟨.d (.int .u64) x, [], []⟩
def padd.add : padd.D → padd.Y → padd.X := fun (p, q) y => y


def padd.Pre : padd.D → Prop := fun (p, q) => U64 p ∧ U64 q
def padd.F : padd.D → padd.Y := fun (p, q) => sumP [p, q]

noncomputable def padd.G : Gam := gcons 144 anyArgs pall.E (gnil)
noncomputable def padd.an : Ann := {
  objs := [],
  loops := fun r => { keep := [], sites := [], frz := [], data := [], owns := [] },
  outs := fun r b => { keep := [], sites := [], frz := [], data := [], owns := [] },
  sums := fun r => none,
  owns := [],
  trim := [],
  res := [] }
theorem padd.eq {R : Type} (p : Int) (q : Int) (k : GRes → Option R) : arun Tryz.prog padd.G padd.an 0 Tryz.f158 (padd.st (p, q)).1 (padd.st (p, q)).2 k =
  obind (pall.call [p, q]) fun x1 =>
  k (padd.out x1) := by kernel_rfl


theorem padd.ok : ∀ d, padd.Pre d → arun Tryz.prog padd.G padd.an 0 Tryz.f158 (padd.st d).1 (padd.st d).2 some = some (padd.out (padd.add d (padd.F d))) := by
  rintro ⟨p, q⟩ ⟨hp, hq⟩
  have h : pall.Pre [p, q] := ⟨by intro x hx; simp only [List.mem_cons, List.not_mem_nil, or_false] at hx; rcases hx with rfl | rfl <;> assumption, by simp only [List.length_cons, List.length_nil]; omega⟩
  rw [padd.eq, pall.run h]
  rfl

theorem padd.inj : ∀ d d', padd.st d = padd.st d' → d = d' := fun (p, q) (p', q') hEq => by
  have e0 : p = p' := d_inj (t := (.int .u64)) (congrArg (fun s : List AVal × List Ent => (s.1.getD 0 .undef)) hEq)
  have e1 : q = q' := d_inj (t := (.int .u64)) (congrArg (fun s : List AVal × List Ent => (s.1.getD 1 .undef)) hEq)
  rw [e0, e1]
noncomputable def padd.E : Entry := Entry.of [some (.int .u64), some (.int .u64)] padd.st padd.Pre (fun d => padd.add d (padd.F d)) padd.out
noncomputable def padd.call : padd.D → Option padd.X := fun d => padd.E.run (padd.st d).1 (padd.st d).2
theorem padd.run {d : padd.D} (h : padd.Pre d) : padd.call d = some (padd.add d (padd.F d)) := Entry.of_run padd.inj h
theorem padd.does : Does Tryz.prog 158 padd.E := Does.of (by kernel_rfl) (show Sound _ padd.G from Sound.cons pall.does (Sound.nil _)) (by kernel_rfl) (by kernel_rfl) (by kernel_rfl) (LOk.fn 0 (by kernel_rfl) trivial) padd.ok

end Go.Ab
namespace Go.Ab
open Go.Proofs
set_option maxRecDepth 100000
set_option linter.unusedVariables false
set_option linter.unusedSimpArgs false


def Qn (x : Int) : Prop := 0 ≤ x ∧ x < 2305843009213688669
theorem Qn.u {x : Int} (h : Qn x) : U64 x := ⟨h.1, by have := h.2; omega⟩
def ofQ (a : Int) : Int := a % 2305843009213688669
theorem ofQ_ok (a : Int) : Qn (ofQ a) := ⟨Int.emod_nonneg _ (by omega), Int.emod_lt_of_pos _ (by omega)⟩
def addQ (a b : Int) : Int := (ofQ a + ofQ b) % 2305843009213688669
def mulQ (a b : Int) : Int := ofQ a * ofQ b % 2305843009213688669
/-- A sum's number. -/
def fromQ (h : List Int) : Int := h.foldl (fun n b => (n * 256 + b) % 2305843009213688668) 0 + 1
def From.b (n : Int) : Prop := 0 ≤ n ∧ n < 2305843009213688668
theorem fromF_ok (h : List Int) (n : Int) (hn : From.b n) : From.b (h.foldl (fun n b => (n * 256 + b) % 2305843009213688668) n) := by
  induction h generalizing n with
  | nil => exact hn
  | cons p l ih => exact ih _ ⟨Int.emod_nonneg _ (by omega), Int.emod_lt_of_pos _ (by omega)⟩
theorem fromQ_ok (h : List Int) : 0 < fromQ h ∧ fromQ h < 2305843009213688669 := by
  have := fromF_ok h 0 ⟨by omega, by omega⟩
  have h1 := this.1
  have h2 := this.2
  unfold fromQ
  omega
theorem addQ_ok (a b : Int) : Qn (addQ a b) := ⟨Int.emod_nonneg _ (by omega), Int.emod_lt_of_pos _ (by omega)⟩
theorem mulQ_ok (a b : Int) : Qn (mulQ a b) := ⟨Int.emod_nonneg _ (by omega), Int.emod_lt_of_pos _ (by omega)⟩

/-! ### corsned/field.Right -/
abbrev fright.D := Int
def fright.st : fright.D → List AVal × List Ent := fun a => ([.d (.int .u64) a], [])
abbrev fright.Y := Bool
abbrev fright.X := Bool
def fright.out : fright.X → GRes := fun x => ⟨.d .bool x, [], []⟩
def fright.add : fright.D → fright.Y → fright.X := fun a y => y


def fright.Pre : fright.D → Prop := fun _ => True
def fright.F : fright.D → fright.Y := fun a => ilt a 2305843009213688669

noncomputable def fright.G : Gam := gnil
noncomputable def fright.an : Ann := {
  objs := [],
  loops := fun r => { keep := [], sites := [], frz := [], data := [], owns := [] },
  outs := fun r b => { keep := [], sites := [], frz := [], data := [], owns := [] },
  sums := fun r => none,
  owns := [],
  trim := [],
  res := [] }
theorem fright.eq {R : Type} (a : Int) (k : GRes → Option R) : arun Tryz.prog fright.G fright.an 0 Tryz.f88 (fright.st a).1 (fright.st a).2 k =
  k (fright.out (ilt a (2305843009213688669 : Int))) := by kernel_rfl


theorem fright.ok : ∀ d, fright.Pre d → arun Tryz.prog fright.G fright.an 0 Tryz.f88 (fright.st d).1 (fright.st d).2 some = some (fright.out (fright.add d (fright.F d))) := by
  intro a _
  rw [fright.eq]
  rfl

theorem fright.inj : ∀ d d', fright.st d = fright.st d' → d = d' := fun a a' hEq => by
  have e0 : a = a' := d_inj (t := (.int .u64)) (congrArg (fun s : List AVal × List Ent => (s.1.getD 0 .undef)) hEq)
  rw [e0]
noncomputable def fright.E : Entry := Entry.of [some (.int .u64)] fright.st fright.Pre (fun d => fright.add d (fright.F d)) fright.out
noncomputable def fright.call : fright.D → Option fright.X := fun d => fright.E.run (fright.st d).1 (fright.st d).2
theorem fright.run {d : fright.D} (h : fright.Pre d) : fright.call d = some (fright.add d (fright.F d)) := Entry.of_run fright.inj h
theorem fright.does : Does Tryz.prog 88 fright.E := Does.of (by kernel_rfl) (show Sound _ fright.G from Sound.nil _) (by kernel_rfl) (by kernel_rfl) (by kernel_rfl) (LOk.fn 0 (by kernel_rfl) trivial) fright.ok

/-! ### corsned/field.of -/
abbrev fof.D := Int
def fof.st : fof.D → List AVal × List Ent := fun a => ([.d (.int .u64) a], [])
abbrev fof.Y := Int
abbrev fof.X := Int
def fof.out : fof.X → GRes := fun x => ⟨.d (.int .u64) x, [], []⟩
def fof.add : fof.D → fof.Y → fof.X := fun a y => y


def fof.Pre : fof.D → Prop := fun a => U64 a
def fof.F : fof.D → fof.Y := fun a => ofQ a

noncomputable def fof.G : Gam := gnil
noncomputable def fof.an : Ann := {
  objs := [],
  loops := fun r => { keep := [], sites := [], frz := [], data := [], owns := [] },
  outs := fun r b => { keep := [], sites := [], frz := [], data := [], owns := [] },
  sums := fun r => none,
  owns := [],
  trim := [],
  res := [] }
theorem fof.eq {R : Type} (a : Int) (k : GRes → Option R) : arun Tryz.prog fof.G fof.an 0 Tryz.f175 (fof.st a).1 (fof.st a).2 k =
  k (fof.out (irem a (2305843009213688669 : Int))) := by kernel_rfl


theorem fof.ok : ∀ d, fof.Pre d → arun Tryz.prog fof.G fof.an 0 Tryz.f175 (fof.st d).1 (fof.st d).2 some = some (fof.out (fof.add d (fof.F d))) := by
  intro a ha
  rw [fof.eq, irem_nn ha.1]
  rfl

theorem fof.inj : ∀ d d', fof.st d = fof.st d' → d = d' := fun a a' hEq => by
  have e0 : a = a' := d_inj (t := (.int .u64)) (congrArg (fun s : List AVal × List Ent => (s.1.getD 0 .undef)) hEq)
  rw [e0]
noncomputable def fof.E : Entry := Entry.of [some (.int .u64)] fof.st fof.Pre (fun d => fof.add d (fof.F d)) fof.out
noncomputable def fof.call : fof.D → Option fof.X := fun d => fof.E.run (fof.st d).1 (fof.st d).2
theorem fof.run {d : fof.D} (h : fof.Pre d) : fof.call d = some (fof.add d (fof.F d)) := Entry.of_run fof.inj h
theorem fof.does : Does Tryz.prog 175 fof.E := Does.of (by kernel_rfl) (show Sound _ fof.G from Sound.nil _) (by kernel_rfl) (by kernel_rfl) (by kernel_rfl) (LOk.fn 0 (by kernel_rfl) trivial) fof.ok

/-! ### (corsned/field.num).plus -/
abbrev fplus.D := Int × Int
def fplus.st : fplus.D → List AVal × List Ent := fun (a, b) => ([.d (.int .u64) a, .d (.int .u64) b], [])
abbrev fplus.Y := Int
abbrev fplus.X := Int
def fplus.out : fplus.X → GRes := fun x => ⟨.d (.int .u64) x, [], []⟩
def fplus.add : fplus.D → fplus.Y → fplus.X := fun (a, b) y => y


def fplus.Pre : fplus.D → Prop := fun (a, b) => Qn a ∧ Qn b
def fplus.F : fplus.D → fplus.Y := fun (a, b) => (a + b) % 2305843009213688669

noncomputable def fplus.G : Gam := gnil
noncomputable def fplus.an : Ann := {
  objs := [],
  loops := fun r => { keep := [], sites := [], frz := [], data := [], owns := [] },
  outs := fun r b => { keep := [], sites := [], frz := [], data := [], owns := [] },
  sums := fun r => none,
  owns := [],
  trim := [],
  res := [] }
theorem fplus.eq {R : Type} (a : Int) (b : Int) (k : GRes → Option R) : arun Tryz.prog fplus.G fplus.an 0 Tryz.f176 (fplus.st (a, b)).1 (fplus.st (a, b)).2 k =
  k (fplus.out (irem (iadd .u64 a b) (2305843009213688669 : Int))) := by kernel_rfl


theorem fplus.ok : ∀ d, fplus.Pre d → arun Tryz.prog fplus.G fplus.an 0 Tryz.f176 (fplus.st d).1 (fplus.st d).2 some = some (fplus.out (fplus.add d (fplus.F d))) := by
  rintro ⟨a, b⟩ ⟨ha, hb⟩
  have ha : Qn a := ha
  have hb : Qn b := hb
  obtain ⟨h1, h2⟩ := ha
  obtain ⟨h3, h4⟩ := hb
  have e : iadd .u64 a b = a + b := by rw [iadd_um]; omega
  rw [fplus.eq, e, irem_nn (by omega)]
  rfl

theorem fplus.inj : ∀ d d', fplus.st d = fplus.st d' → d = d' := fun (a, b) (a', b') hEq => by
  have e0 : a = a' := d_inj (t := (.int .u64)) (congrArg (fun s : List AVal × List Ent => (s.1.getD 0 .undef)) hEq)
  have e1 : b = b' := d_inj (t := (.int .u64)) (congrArg (fun s : List AVal × List Ent => (s.1.getD 1 .undef)) hEq)
  rw [e0, e1]
noncomputable def fplus.E : Entry := Entry.of [some (.int .u64), some (.int .u64)] fplus.st fplus.Pre (fun d => fplus.add d (fplus.F d)) fplus.out
noncomputable def fplus.call : fplus.D → Option fplus.X := fun d => fplus.E.run (fplus.st d).1 (fplus.st d).2
theorem fplus.run {d : fplus.D} (h : fplus.Pre d) : fplus.call d = some (fplus.add d (fplus.F d)) := Entry.of_run fplus.inj h
theorem fplus.does : Does Tryz.prog 176 fplus.E := Does.of (by kernel_rfl) (show Sound _ fplus.G from Sound.nil _) (by kernel_rfl) (by kernel_rfl) (by kernel_rfl) (LOk.fn 0 (by kernel_rfl) trivial) fplus.ok

/-! ### (corsned/field.num).times -/
abbrev ftimes.D := Int × Int
def ftimes.st : ftimes.D → List AVal × List Ent := fun (a, b) => ([.d (.int .u64) a, .d (.int .u64) b], [])
abbrev ftimes.Y := Int
abbrev ftimes.X := Int
def ftimes.out : ftimes.X → GRes := fun x => ⟨.d (.int .u64) x, [], []⟩
def ftimes.add : ftimes.D → ftimes.Y → ftimes.X := fun (a, b) y => y


def ftimes.Pre : ftimes.D → Prop := fun (a, b) => Qn a ∧ Qn b
def ftimes.F : ftimes.D → ftimes.Y := fun (a, b) => a * b % 2305843009213688669

noncomputable def ftimes.G : Gam := gcons 168 anyArgs mul64.E (gcons 157 anyArgs rem64.E (gnil))
noncomputable def ftimes.an : Ann := {
  objs := [],
  loops := fun r => { keep := [], sites := [], frz := [], data := [], owns := [] },
  outs := fun r b => { keep := [], sites := [], frz := [], data := [], owns := [] },
  sums := fun r => none,
  owns := [],
  trim := [],
  res := [] }
theorem ftimes.eq {R : Type} (a : Int) (b : Int) (k : GRes → Option R) : arun Tryz.prog ftimes.G ftimes.an 0 Tryz.f177 (ftimes.st (a, b)).1 (ftimes.st (a, b)).2 k =
  obind (mul64.call (a, b)) fun x1 =>
  obind (rem64.call (x1.1, x1.2, (2305843009213688669 : Int))) fun x2 =>
  k (ftimes.out x2) := by kernel_rfl


theorem ftimes.ok : ∀ d, ftimes.Pre d → arun Tryz.prog ftimes.G ftimes.an 0 Tryz.f177 (ftimes.st d).1 (ftimes.st d).2 some = some (ftimes.out (ftimes.add d (ftimes.F d))) := by
  rintro ⟨a, b⟩ ⟨ha, hb⟩
  have ha : Qn a := ha
  have hb : Qn b := hb
  obtain ⟨m1, m2⟩ := mul_le ha.1 (show a ≤ 18446744073709551615 by have := ha.2; omega) hb.1 (show b ≤ 18446744073709551615 by have := hb.2; omega)
  have n : (18446744073709551615 : Int) * 18446744073709551615 = 340282366920938463426481119284349108225 := rfl
  rw [n] at m2
  have p : rem64.Pre (a * b / 18446744073709551616, a * b % 18446744073709551616, 2305843009213688669) := ⟨Or.inr (Or.inl rfl), by omega, by omega, by omega, by omega⟩
  rw [ftimes.eq, mul64.run (d := (a, b)) ⟨ha.u, hb.u⟩]
  simp only [obind_some, mul64.add, mul64.F]
  rw [rem64.run p]
  simp only [obind_some, rem64.add, rem64.F, two_digits]
  rfl

theorem ftimes.inj : ∀ d d', ftimes.st d = ftimes.st d' → d = d' := fun (a, b) (a', b') hEq => by
  have e0 : a = a' := d_inj (t := (.int .u64)) (congrArg (fun s : List AVal × List Ent => (s.1.getD 0 .undef)) hEq)
  have e1 : b = b' := d_inj (t := (.int .u64)) (congrArg (fun s : List AVal × List Ent => (s.1.getD 1 .undef)) hEq)
  rw [e0, e1]
noncomputable def ftimes.E : Entry := Entry.of [some (.int .u64), some (.int .u64)] ftimes.st ftimes.Pre (fun d => ftimes.add d (ftimes.F d)) ftimes.out
noncomputable def ftimes.call : ftimes.D → Option ftimes.X := fun d => ftimes.E.run (ftimes.st d).1 (ftimes.st d).2
theorem ftimes.run {d : ftimes.D} (h : ftimes.Pre d) : ftimes.call d = some (ftimes.add d (ftimes.F d)) := Entry.of_run ftimes.inj h
theorem ftimes.does : Does Tryz.prog 177 ftimes.E := Does.of (by kernel_rfl) (show Sound _ ftimes.G from Sound.cons mul64.does (Sound.cons rem64.does (Sound.nil _))) (by kernel_rfl) (by kernel_rfl) (by kernel_rfl) (LOk.fn 0 (by kernel_rfl) trivial) ftimes.ok

/-! ### corsned/field.Add -/
abbrev fadd.D := Int × Int
def fadd.st : fadd.D → List AVal × List Ent := fun (a, b) => ([.d (.int .u64) a, .d (.int .u64) b], [])
abbrev fadd.Y := Int
abbrev fadd.X := Int
def fadd.out : fadd.X → GRes := fun x => ⟨.d (.int .u64) x, [], []⟩
def fadd.add : fadd.D → fadd.Y → fadd.X := fun (a, b) y => y


def fadd.Pre : fadd.D → Prop := fun (a, b) => U64 a ∧ U64 b
def fadd.F : fadd.D → fadd.Y := fun (a, b) => addQ a b

noncomputable def fadd.G : Gam := gcons 175 anyArgs fof.E (gcons 176 anyArgs fplus.E (gnil))
noncomputable def fadd.an : Ann := {
  objs := [],
  loops := fun r => { keep := [], sites := [], frz := [], data := [], owns := [] },
  outs := fun r b => { keep := [], sites := [], frz := [], data := [], owns := [] },
  sums := fun r => none,
  owns := [],
  trim := [],
  res := [] }
theorem fadd.eq {R : Type} (a : Int) (b : Int) (k : GRes → Option R) : arun Tryz.prog fadd.G fadd.an 0 Tryz.f159 (fadd.st (a, b)).1 (fadd.st (a, b)).2 k =
  obind (fof.call a) fun x1 =>
  obind (fof.call b) fun x2 =>
  obind (fplus.call (x1, x2)) fun x3 =>
  k (fadd.out x3) := by kernel_rfl


theorem fadd.ok : ∀ d, fadd.Pre d → arun Tryz.prog fadd.G fadd.an 0 Tryz.f159 (fadd.st d).1 (fadd.st d).2 some = some (fadd.out (fadd.add d (fadd.F d))) := by
  rintro ⟨a, b⟩ ⟨ha, hb⟩
  rw [fadd.eq, fof.run (d := a) ha, fof.run (d := b) hb]
  simp only [obind_some, fof.add, fof.F]
  rw [fplus.run (d := (ofQ a, ofQ b)) ⟨ofQ_ok a, ofQ_ok b⟩]
  rfl

theorem fadd.inj : ∀ d d', fadd.st d = fadd.st d' → d = d' := fun (a, b) (a', b') hEq => by
  have e0 : a = a' := d_inj (t := (.int .u64)) (congrArg (fun s : List AVal × List Ent => (s.1.getD 0 .undef)) hEq)
  have e1 : b = b' := d_inj (t := (.int .u64)) (congrArg (fun s : List AVal × List Ent => (s.1.getD 1 .undef)) hEq)
  rw [e0, e1]
noncomputable def fadd.E : Entry := Entry.of [some (.int .u64), some (.int .u64)] fadd.st fadd.Pre (fun d => fadd.add d (fadd.F d)) fadd.out
noncomputable def fadd.call : fadd.D → Option fadd.X := fun d => fadd.E.run (fadd.st d).1 (fadd.st d).2
theorem fadd.run {d : fadd.D} (h : fadd.Pre d) : fadd.call d = some (fadd.add d (fadd.F d)) := Entry.of_run fadd.inj h
theorem fadd.does : Does Tryz.prog 159 fadd.E := Does.of (by kernel_rfl) (show Sound _ fadd.G from Sound.cons fof.does (Sound.cons fplus.does (Sound.nil _))) (by kernel_rfl) (by kernel_rfl) (by kernel_rfl) (LOk.fn 0 (by kernel_rfl) trivial) fadd.ok

/-! ### corsned/field.Mul -/
abbrev fmul.D := Int × Int
def fmul.st : fmul.D → List AVal × List Ent := fun (a, b) => ([.d (.int .u64) a, .d (.int .u64) b], [])
abbrev fmul.Y := Int
abbrev fmul.X := Int
def fmul.out : fmul.X → GRes := fun x => ⟨.d (.int .u64) x, [], []⟩
def fmul.add : fmul.D → fmul.Y → fmul.X := fun (a, b) y => y


def fmul.Pre : fmul.D → Prop := fun (a, b) => U64 a ∧ U64 b
def fmul.F : fmul.D → fmul.Y := fun (a, b) => mulQ a b

noncomputable def fmul.G : Gam := gcons 175 anyArgs fof.E (gcons 177 anyArgs ftimes.E (gnil))
noncomputable def fmul.an : Ann := {
  objs := [],
  loops := fun r => { keep := [], sites := [], frz := [], data := [], owns := [] },
  outs := fun r b => { keep := [], sites := [], frz := [], data := [], owns := [] },
  sums := fun r => none,
  owns := [],
  trim := [],
  res := [] }
theorem fmul.eq {R : Type} (a : Int) (b : Int) (k : GRes → Option R) : arun Tryz.prog fmul.G fmul.an 0 Tryz.f160 (fmul.st (a, b)).1 (fmul.st (a, b)).2 k =
  obind (fof.call a) fun x1 =>
  obind (fof.call b) fun x2 =>
  obind (ftimes.call (x1, x2)) fun x3 =>
  k (fmul.out x3) := by kernel_rfl


theorem fmul.ok : ∀ d, fmul.Pre d → arun Tryz.prog fmul.G fmul.an 0 Tryz.f160 (fmul.st d).1 (fmul.st d).2 some = some (fmul.out (fmul.add d (fmul.F d))) := by
  rintro ⟨a, b⟩ ⟨ha, hb⟩
  rw [fmul.eq, fof.run (d := a) ha, fof.run (d := b) hb]
  simp only [obind_some, fof.add, fof.F]
  rw [ftimes.run (d := (ofQ a, ofQ b)) ⟨ofQ_ok a, ofQ_ok b⟩]
  rfl

theorem fmul.inj : ∀ d d', fmul.st d = fmul.st d' → d = d' := fun (a, b) (a', b') hEq => by
  have e0 : a = a' := d_inj (t := (.int .u64)) (congrArg (fun s : List AVal × List Ent => (s.1.getD 0 .undef)) hEq)
  have e1 : b = b' := d_inj (t := (.int .u64)) (congrArg (fun s : List AVal × List Ent => (s.1.getD 1 .undef)) hEq)
  rw [e0, e1]
noncomputable def fmul.E : Entry := Entry.of [some (.int .u64), some (.int .u64)] fmul.st fmul.Pre (fun d => fmul.add d (fmul.F d)) fmul.out
noncomputable def fmul.call : fmul.D → Option fmul.X := fun d => fmul.E.run (fmul.st d).1 (fmul.st d).2
theorem fmul.run {d : fmul.D} (h : fmul.Pre d) : fmul.call d = some (fmul.add d (fmul.F d)) := Entry.of_run fmul.inj h
theorem fmul.does : Does Tryz.prog 160 fmul.E := Does.of (by kernel_rfl) (show Sound _ fmul.G from Sound.cons fof.does (Sound.cons ftimes.does (Sound.nil _))) (by kernel_rfl) (by kernel_rfl) (by kernel_rfl) (LOk.fn 0 (by kernel_rfl) trivial) fmul.ok

/-! ### corsned/field.From -/
abbrev ffrom.L0.D := Int × (List Int) × Int
def ffrom.L0.st : ffrom.L0.D → AS := fun (n, t6, t7) => ⟨([.undef, .undef, .undef, .d (.int .u64) n, .undef, .undef, .d (.arr 32 (.int .u8)) t6, .d (.int .i64) t7] ++ undN 13 []), [], (List.replicate 21 [])⟩
abbrev ffrom.L0.Y0 := Int  -- n
abbrev ffrom.L0.X0 := Int
def ffrom.L0.ex0 : ffrom.L0.X0 → Exit × AS := fun x => (.exit 0, ⟨([.undef, .undef, .undef, .d (.int .u64) x] ++ undN 17 []), [], (List.replicate 21 [])⟩)
abbrev ffrom.L0.X := ffrom.L0.X0
abbrev ffrom.L0.Y := ffrom.L0.Y0
def ffrom.L0.out : ffrom.L0.X → Out (Exit × AS) := fun x => .ok (ffrom.L0.ex0 x)
def ffrom.L0.add : ffrom.L0.D → ffrom.L0.Y → ffrom.L0.X := fun (n, t6, t7) y => y
abbrev ffrom.D := (List Int)
def ffrom.st : ffrom.D → List AVal × List Ent := fun h => ([.d (.arr 32 (.int .u8)) h], [])
abbrev ffrom.Y := Int
abbrev ffrom.X := Int
def ffrom.out : ffrom.X → GRes := fun x => ⟨.d (.int .u64) x, [], []⟩
def ffrom.add : ffrom.D → ffrom.Y → ffrom.X := fun h y => y


def ffrom.L0.Pre : ffrom.L0.D → Prop := fun (n, h, i) => From.b n ∧ h.length = 32 ∧ Bytes h ∧ ∃ k : Nat, k ≤ 32 ∧ i = k
def ffrom.L0.F : ffrom.L0.D → ffrom.L0.Y := fun (n, h, i) => (h.drop i.toNat).foldl (fun n b => (n * 256 + b) % 2305843009213688668) n
def ffrom.Pre : ffrom.D → Prop := fun h => h.length = 32 ∧ Bytes h
def ffrom.F : ffrom.D → ffrom.Y := fun h => fromQ h

noncomputable def ffrom.G : Gam := gcons 157 anyArgs rem64.E (gnil)
noncomputable def ffrom.L0.E : LEntry := LEntry.of ffrom.L0.st ffrom.L0.Pre (fun d => ffrom.L0.add d (ffrom.L0.F d)) ffrom.L0.out
noncomputable def ffrom.L0.call : ffrom.L0.D → Option ffrom.L0.X := fun d => ffrom.L0.E.run (ffrom.L0.st d)
noncomputable def ffrom.an : Ann := {
  objs := [],
  loops := fun r => bif Nat.beq r 3 then { keep := [3, 6, 7], sites := [], frz := [], data := [], owns := [] } else { keep := [], sites := [], frz := [], data := [], owns := [] },
  outs := fun r b => bif Nat.beq r 3 then (bif b then { keep := [2], sites := [], frz := [], data := [], owns := [] } else { keep := [3], sites := [], frz := [], data := [], owns := [] }) else { keep := [], sites := [], frz := [], data := [], owns := [] },
  sums := fun r => bif Nat.beq r 3 then some ffrom.L0.E else none,
  owns := [],
  trim := [],
  res := [] }
theorem ffrom.L0.inj : ∀ d d', ffrom.L0.st d = ffrom.L0.st d' → d = d' := fun (n, t6, t7) (n', t6', t7') hEq => by
  have e0 : n = n' := d_inj (t := (.int .u64)) (congrArg (fun s : AS => (s.slot 3)) hEq)
  have e1 : t6 = t6' := d_inj (t := (.arr 32 (.int .u8))) (congrArg (fun s : AS => (s.slot 6)) hEq)
  have e2 : t7 = t7' := d_inj (t := (.int .i64)) (congrArg (fun s : AS => (s.slot 7)) hEq)
  rw [e0, e1, e2]
theorem ffrom.L0.run {d : ffrom.L0.D} (h : ffrom.L0.Pre d) : ffrom.L0.call d = some (ffrom.L0.add d (ffrom.L0.F d)) := LEntry.of_run ffrom.L0.inj h
theorem ffrom.L0.byRounds (μ : ffrom.L0.D → Nat) (h : ∀ d, ffrom.L0.Pre d → (∃ d', ffrom.L0.Pre d' ∧ μ d' < μ d ∧ ffrom.L0.add d' (ffrom.L0.F d') = ffrom.L0.add d (ffrom.L0.F d) ∧ ∀ {R : Type} (kn : AS → Option R) (kx : Exit → AS → Option R), lround Tryz.prog ffrom.G ffrom.an 0 Tryz.f124 0 (ffrom.L0.st d) kn kx = kn (ffrom.L0.st d')) ∨ (∀ {R : Type} (kn : AS → Option R) (kx : Exit → AS → Option R), lround Tryz.prog ffrom.G ffrom.an 0 Tryz.f124 0 (ffrom.L0.st d) kn kx = kx (ffrom.L0.ex0 (ffrom.L0.add d (ffrom.L0.F d))).1 (ffrom.L0.ex0 (ffrom.L0.add d (ffrom.L0.F d))).2)) : ∀ d, ffrom.L0.Pre d → ∃ n, lrun Tryz.prog ffrom.G ffrom.an 0 Tryz.f124 0 n (ffrom.L0.st d) (fun e s => some (e, s)) = (ffrom.L0.out (ffrom.L0.add d (ffrom.L0.F d))).eval := lrun_one (F := fun d => ffrom.L0.add d (ffrom.L0.F d)) μ h
theorem ffrom.L0.step {R : Type} (n : Int) (t6 : (List Int)) (t7 : Int) (kn : AS → Option R) (kx : Exit → AS → Option R) : lround Tryz.prog ffrom.G ffrom.an 0 Tryz.f124 0 (ffrom.L0.st (n, t6, t7)) kn kx =
  sel ((ilt t7 (32 : Int))) (
   sel (inb t7 (32 : Int)) (
   obind (rem64.call ((ishr .u64 n (56 : Int)), (bitop .or .u64 (ishl .u64 n (8 : Int)) (icv .u64 (nth (.int .u8) t6 (Int.toNat t7)))), (2305843009213688668 : Int))) fun x1 =>
   kn (ffrom.L0.st (x1, t6, (iadd .i64 t7 (1 : Int))))) none) (
   kx (ffrom.L0.ex0 n).1 (ffrom.L0.ex0 n).2) := by kernel_rfl
theorem ffrom.eq {R : Type} (h : (List Int)) (k : GRes → Option R) : arun Tryz.prog ffrom.G ffrom.an 0 Tryz.f124 (ffrom.st h).1 (ffrom.st h).2 k =
  obind (ffrom.L0.call ((0 : Int), h, (0 : Int))) fun x2 =>
  k (ffrom.out (iadd .u64 x2 (1 : Int))) := by kernel_rfl


theorem from_digits {n b : Int} (hn : From.b n) (hb : Byte b) : ishr .u64 n 56 * 18446744073709551616 + bitop .or .u64 (ishl .u64 n 8) (icv .u64 b) = n * 256 + b ∧ U64 (ishr .u64 n 56) ∧ U64 (bitop .or .u64 (ishl .u64 n 8) (icv .u64 b)) := by
  obtain ⟨h1, h2⟩ := hn
  obtain ⟨h3, h4⟩ := hb
  have p56 : (2 : Int) ^ 56 = 72057594037927936 := rfl
  have p8 : (2 : Int) ^ 8 = 256 := rfl
  have e : icv .u64 b = b := by rw [icv_um]; omega
  rw [shr_u64 56 (by rfl) (by omega), shl_u64 8 (by rfl) (by omega), p56, p8, e, or_apart 8 256 rfl (by omega) (by omega) (by omega) (by omega) (by omega) (by omega)]
  exact ⟨by omega, ⟨by omega, by omega⟩, by omega, by omega⟩
theorem ffrom.L0.ok : ∀ d, ffrom.L0.Pre d → ∃ n, lrun Tryz.prog ffrom.G ffrom.an 0 Tryz.f124 0 n (ffrom.L0.st d) (fun e s => some (e, s)) = (ffrom.L0.out (ffrom.L0.add d (ffrom.L0.F d))).eval := by
  refine ffrom.L0.byRounds (fun (n, h, i) => 32 - i.toNat) ?_
  rintro ⟨n, h, i⟩ ⟨hn, hl, hb, k, hk, rfl⟩
  have hn : From.b n := hn
  have hl : h.length = 32 := hl
  have hb : Bytes h := hb
  by_cases hlt : k < 32
  · left
    have hx : Byte (h[k]'(by omega)) := hb _ (List.getElem_mem _)
    have n1 : nth (.int .u8) h k = h[k]'(by omega) := nth_lt (t := .int .u8) (by omega)
    obtain ⟨d1, d2, d3⟩ := from_digits hn hx
    refine ⟨((n * 256 + h[k]'(by omega)) % 2305843009213688668, h, ((k + 1 : Nat) : Int)), ⟨⟨by omega, by omega⟩, hl, hb, k + 1, by omega, rfl⟩, by simp only [Int.toNat_natCast]; omega, ?_, fun kn kx => ?_⟩
    · simp only [ffrom.L0.add, ffrom.L0.F, Int.toNat_natCast]
      rw [List.drop_eq_getElem_cons (by omega : k < h.length)]
      rfl
    · rw [ffrom.L0.step]
      simp (disch := omega) only [↓N.lt, ↓N.le, ↓N.gt, ↓N.ge, ↓N.eq, ↓N.ne, ↓N.ib, ↓N.ic, ↓N.nn, ↓N.nz, ↓N.dc, ↓N.rm, ↓N.an, ↓N.or, ↓N.no, ↓if_pos, ↓if_neg, ↓sel_true, ↓sel_false, ↓obind_some, if_pos, if_neg, obind_some, N.aNN, N.aNL, N.aLN, N.sNN, N.sNL, N.sLN, N.mNN, N.mNL, N.mLN, N.qNN, N.qNL, N.rNN, N.rNL, N.cN, N.cL, N.tL, Int.toNat_natCast, if_true, if_false, and_self, true_and, and_true, n1]
      rw [rem64.run (d := (_, _, 2305843009213688668)) ⟨Or.inr (Or.inr rfl), d2.1, d2.2, d3.1, d3.2⟩]
      simp only [obind_some, rem64.add, rem64.F, d1]
  · right
    obtain rfl : k = 32 := by omega
    intro R kn kx
    rw [ffrom.L0.step]
    simp (disch := omega) only [↓N.lt, ↓N.le, ↓N.gt, ↓N.ge, ↓N.eq, ↓N.ne, ↓N.ib, ↓N.ic, ↓N.nn, ↓N.nz, ↓N.dc, ↓N.rm, ↓N.an, ↓N.or, ↓N.no, ↓if_pos, ↓if_neg, ↓sel_true, ↓sel_false, ↓obind_some, if_pos, if_neg, obind_some, N.aNN, N.aNL, N.aLN, N.sNN, N.sNL, N.sLN, N.mNN, N.mNL, N.mLN, N.qNN, N.qNL, N.rNN, N.rNL, N.cN, N.cL, N.tL, Int.toNat_natCast, if_true, if_false, and_self, true_and, and_true, ffrom.L0.add, ffrom.L0.F]
    rw [List.drop_of_length_le (by omega)]
    rfl
theorem ffrom.ok : ∀ d, ffrom.Pre d → arun Tryz.prog ffrom.G ffrom.an 0 Tryz.f124 (ffrom.st d).1 (ffrom.st d).2 some = some (ffrom.out (ffrom.add d (ffrom.F d))) := by
  rintro h ⟨hl, hb⟩
  have e := fromF_ok h 0 ⟨by omega, by omega⟩
  have h1 := e.1
  have h2 := e.2
  rw [ffrom.eq, ffrom.L0.run (d := (0, h, 0)) ⟨⟨by omega, by omega⟩, hl, hb, 0, by omega, rfl⟩]
  simp only [obind_some, ffrom.L0.add, ffrom.L0.F, ffrom.add, ffrom.F, fromQ, Int.toNat_zero, List.drop_zero]
  revert h1 h2
  generalize h.foldl (fun n b => (n * 256 + b) % 2305843009213688668) 0 = m
  intro h1 h2
  have e : iadd .u64 m 1 = m + 1 := by rw [iadd_um]; omega
  rw [e]

theorem ffrom.inj : ∀ d d', ffrom.st d = ffrom.st d' → d = d' := fun h h' hEq => by
  have e0 : h = h' := d_inj (t := (.arr 32 (.int .u8))) (congrArg (fun s : List AVal × List Ent => (s.1.getD 0 .undef)) hEq)
  rw [e0]
noncomputable def ffrom.E : Entry := Entry.of [some (.arr 32 (.int .u8))] ffrom.st ffrom.Pre (fun d => ffrom.add d (ffrom.F d)) ffrom.out
noncomputable def ffrom.call : ffrom.D → Option ffrom.X := fun d => ffrom.E.run (ffrom.st d).1 (ffrom.st d).2
theorem ffrom.run {d : ffrom.D} (h : ffrom.Pre d) : ffrom.call d = some (ffrom.add d (ffrom.F d)) := Entry.of_run ffrom.inj h
theorem ffrom.does : Does Tryz.prog 124 ffrom.E := Does.of (by kernel_rfl) (show Sound _ ffrom.G from Sound.cons rem64.does (Sound.nil _)) (by kernel_rfl) (by kernel_rfl) (by kernel_rfl) (LOk.fn 1 (by kernel_rfl) (And.intro (LDo.of (by kernel_rfl) ffrom.L0.ok) trivial)) ffrom.ok

end Go.Ab
namespace Go.Ab
open Go.Proofs
set_option maxRecDepth 100000
set_option linter.unusedVariables false
set_option linter.unusedSimpArgs false


theorem be8_eq64 (n : Int) : [icv .u8 (ishr .u64 n 56), icv .u8 (ishr .u64 n 48), icv .u8 (ishr .u64 n 40), icv .u8 (ishr .u64 n 32), icv .u8 (ishr .u64 n 24), icv .u8 (ishr .u64 n 16), icv .u8 (ishr .u64 n 8), icv .u8 (ishr .u64 n 0)] = be8 n := be8_eq n
theorem cut_len {α : Type} {l : List α} {n : Nat} (h : l.length = n) : cut l 0 n = l := by subst h; simp [cut]
theorem tag_pre3 {n : ByteArray} {a b c : List Int} (hn : n.size ≤ 100) (ha : a.length ≤ 1000000) (hb : b.length ≤ 1000000) (hc : c.length ≤ 1000000) : htag.Pre (n, [a, b, c]) := by
  show (tagb _ [a, b, c]).length ≤ _
  rw [tagb]
  simp only [tagp, List.flatMap_cons, List.flatMap_nil, List.length_append, be8_length, bytesOfStr_length, List.length_nil]
  omega
theorem tag_pre2 {n : ByteArray} {a b : List Int} (hn : n.size ≤ 100) (ha : a.length ≤ 1000000) (hb : b.length ≤ 1000000) : htag.Pre (n, [a, b]) := by
  show (tagb _ [a, b]).length ≤ _
  rw [tagb]
  simp only [tagp, List.flatMap_cons, List.flatMap_nil, List.length_append, be8_length, bytesOfStr_length, List.length_nil]
  omega
theorem tag_pre1 {n : ByteArray} {a : List Int} (hn : n.size ≤ 100) (ha : a.length ≤ 1000000) : htag.Pre (n, [a]) := by
  show (tagb _ [a]).length ≤ _
  rw [tagb]
  simp only [tagp, List.flatMap_cons, List.flatMap_nil, List.length_append, be8_length, bytesOfStr_length, List.length_nil]
  omega
/-- A sum. -/
def Sm (m : List Int) : Prop := m.length = 32 ∧ Bytes m
theorem sm_sha (b : List Int) : Sm (sha b) := ⟨sha_length b, bytes_sha b⟩
theorem sm_tag (n : List Int) (ps : List (List Int)) : Sm (tag n ps) := sm_sha _
def tagN (n : ByteArray) (ps : List (List Int)) : List Int := tag (bytesOfStr n) ps
def nSig : ByteArray := ⟨#[115, 105, 103]⟩
def nNonce : ByteArray := ⟨#[110, 111, 110, 99, 101]⟩
def chalQ (r p : Int) (m : List Int) : Int := fromQ (tagN nSig [be8 r, be8 p, m])
theorem chalQ_ok (r p : Int) (m : List Int) : Qn (chalQ r p m) := by
  have := fromQ_ok (tagN nSig [be8 r, be8 p, m])
  exact ⟨by unfold chalQ; omega, by unfold chalQ; omega⟩
/-- A signature as two numbers. -/
abbrev Sg := Int × (Int × Unit)
def SgU (s : Sg) : Prop := U64 s.1 ∧ U64 s.2.1
def checks (p : Int) (m : List Int) (t : Int) (s : Sg) : Bool :=
  if p = 1 ∨ isP p = false ∨ isP t = false ∨ isP s.1 = false ∨ ¬ s.2.1 < 2305843009213688669 then false
  else decide (baseP s.2.1 = sumP [s.1, scaleP p (chalQ s.1 p m), negP t])
def answerQ (k nonce : Int) (m : List Int) (t : Int) : Sg :=
  (sumP [baseP nonce, t], addQ nonce (mulQ (chalQ (sumP [baseP nonce, t]) (baseP k) m) k), ())
def nonceQ (k : Int) (m : List Int) : Int := fromQ (tagN nNonce [be8 k, m])
def signQ (k : Int) (m : List Int) : Sg := if k < 2305843009213688669 ∧ k ≠ 0 then answerQ k (nonceQ k m) m 1 else (0, 0, ())

/-! ### corsned/sign.eight -/
abbrev eight8.D := Int
def eight8.st : eight8.D → List AVal × List Ent := fun n => ([.d (.int .u64) n], [])
abbrev eight8.Y := (List Int)
abbrev eight8.X := (List Int)
def eight8.out : eight8.X → GRes := fun x => ⟨.d (.slice (.int .u8)) x, [], []⟩
def eight8.add : eight8.D → eight8.Y → eight8.X := fun n y => y


def eight8.Pre : eight8.D → Prop := fun _ => True
def eight8.F : eight8.D → eight8.Y := fun n => be8 n

noncomputable def eight8.G : Gam := gnil
noncomputable def eight8.an : Ann := {
  objs := [],
  loops := fun r => bif Nat.beq r 3 then { keep := [0, 3, 7, 8], sites := [5], frz := [], data := [], owns := [] } else { keep := [], sites := [], frz := [], data := [], owns := [] },
  outs := fun r b => bif Nat.beq r 3 then (bif b then { keep := [2], sites := [5], frz := [], data := [], owns := [] } else { keep := [3], sites := [5], frz := [], data := [], owns := [] }) else { keep := [], sites := [], frz := [], data := [], owns := [] },
  sums := fun r => none,
  owns := [],
  trim := [],
  res := [some (.slice (.int .u8))] }
theorem eight8.eq {R : Type} (n : Int) (k : GRes → Option R) : arun Tryz.prog eight8.G eight8.an 12 Tryz.f130 (eight8.st n).1 (eight8.st n).2 k =
  k (eight8.out [(icv .u8 (ishr .u64 n (56 : Int))), (icv .u8 (ishr .u64 n (48 : Int))), (icv .u8 (ishr .u64 n (40 : Int))), (icv .u8 (ishr .u64 n (32 : Int))), (icv .u8 (ishr .u64 n (24 : Int))), (icv .u8 (ishr .u64 n (16 : Int))), (icv .u8 (ishr .u64 n (8 : Int))), (icv .u8 (ishr .u64 n (0 : Int)))]) := by kernel_rfl


theorem eight8.ok : ∀ d, eight8.Pre d → arun Tryz.prog eight8.G eight8.an 12 Tryz.f130 (eight8.st d).1 (eight8.st d).2 some = some (eight8.out (eight8.add d (eight8.F d))) := by
  intro n _
  rw [eight8.eq, be8_eq64]
  rfl

theorem eight8.inj : ∀ d d', eight8.st d = eight8.st d' → d = d' := fun n n' hEq => by
  have e0 : n = n' := d_inj (t := (.int .u64)) (congrArg (fun s : List AVal × List Ent => (s.1.getD 0 .undef)) hEq)
  rw [e0]
noncomputable def eight8.E : Entry := Entry.of [some (.int .u64)] eight8.st eight8.Pre (fun d => eight8.add d (eight8.F d)) eight8.out
noncomputable def eight8.call : eight8.D → Option eight8.X := fun d => eight8.E.run (eight8.st d).1 (eight8.st d).2
theorem eight8.run {d : eight8.D} (h : eight8.Pre d) : eight8.call d = some (eight8.add d (eight8.F d)) := Entry.of_run eight8.inj h
theorem eight8.does : Does Tryz.prog 130 eight8.E := Does.of (by kernel_rfl) (show Sound _ eight8.G from Sound.nil _) (by kernel_rfl) (by kernel_rfl) (by kernel_rfl) (LOk.fn 1 (by kernel_rfl) (And.intro (LDo.none (by kernel_rfl)) trivial)) eight8.ok

/-! ### corsned/sign.challenge -/
abbrev chall.D := Int × Int × (List Int)
def chall.st : chall.D → List AVal × List Ent := fun (r, p, m) => ([.d (.int .u64) r, .d (.int .u64) p, .d (.arr 32 (.int .u8)) m], [])
abbrev chall.Y := Int
abbrev chall.X := Int
def chall.out : chall.X → GRes := fun x => ⟨.d (.int .u64) x, [], []⟩
def chall.add : chall.D → chall.Y → chall.X := fun (r, p, m) y => y


def chall.Pre : chall.D → Prop := fun (r, p, m) => Sm m
def chall.F : chall.D → chall.Y := fun (r, p, m) => chalQ r p m

noncomputable def chall.G : Gam := gcons 130 anyArgs eight8.E (gcons 54 anyArgs htag.E (gcons 124 anyArgs ffrom.E (gnil)))
noncomputable def chall.an : Ann := {
  objs := [],
  loops := fun r => { keep := [], sites := [], frz := [], data := [], owns := [] },
  outs := fun r b => { keep := [], sites := [], frz := [], data := [], owns := [] },
  sums := fun r => none,
  owns := [],
  trim := [],
  res := [] }
theorem chall.eq {R : Type} (r : Int) (p : Int) (m : (List Int)) (k : GRes → Option R) : arun Tryz.prog chall.G chall.an 0 Tryz.f145 (chall.st (r, p, m)).1 (chall.st (r, p, m)).2 k =
  obind (eight8.call r) fun x1 =>
  obind (eight8.call p) fun x2 =>
  obind (htag.call ((⟨#[115, 105, 103]⟩ : ByteArray), [x1, x2, (cut m 0 32)])) fun x3 =>
  obind (ffrom.call x3) fun x4 =>
  k (chall.out x4) := by kernel_rfl


theorem chall.ok : ∀ d, chall.Pre d → arun Tryz.prog chall.G chall.an 0 Tryz.f145 (chall.st d).1 (chall.st d).2 some = some (chall.out (chall.add d (chall.F d))) := by
  rintro ⟨r, p, m⟩ hm
  have hm : Sm m := hm
  rw [chall.eq, eight8.run (d := r) trivial, eight8.run (d := p) trivial]
  simp only [obind_some, eight8.add, eight8.F]
  rw [cut_len hm.1, htag.run (tag_pre3 (by decide) (by rw [be8_length]; omega) (by rw [be8_length]; omega) (by rw [hm.1]; omega))]
  simp only [obind_some, htag.add, htag.F]
  rw [ffrom.run (d := tag (bytesOfStr (⟨#[115, 105, 103]⟩ : ByteArray)) [be8 r, be8 p, m]) (sm_tag _ _)]
  rfl

theorem chall.inj : ∀ d d', chall.st d = chall.st d' → d = d' := fun (r, p, m) (r', p', m') hEq => by
  have e0 : r = r' := d_inj (t := (.int .u64)) (congrArg (fun s : List AVal × List Ent => (s.1.getD 0 .undef)) hEq)
  have e1 : p = p' := d_inj (t := (.int .u64)) (congrArg (fun s : List AVal × List Ent => (s.1.getD 1 .undef)) hEq)
  have e2 : m = m' := d_inj (t := (.arr 32 (.int .u8))) (congrArg (fun s : List AVal × List Ent => (s.1.getD 2 .undef)) hEq)
  rw [e0, e1, e2]
noncomputable def chall.E : Entry := Entry.of [some (.int .u64), some (.int .u64), some (.arr 32 (.int .u8))] chall.st chall.Pre (fun d => chall.add d (chall.F d)) chall.out
noncomputable def chall.call : chall.D → Option chall.X := fun d => chall.E.run (chall.st d).1 (chall.st d).2
theorem chall.run {d : chall.D} (h : chall.Pre d) : chall.call d = some (chall.add d (chall.F d)) := Entry.of_run chall.inj h
theorem chall.does : Does Tryz.prog 145 chall.E := Does.of (by kernel_rfl) (show Sound _ chall.G from Sound.cons eight8.does (Sound.cons htag.does (Sound.cons ffrom.does (Sound.nil _)))) (by kernel_rfl) (by kernel_rfl) (by kernel_rfl) (LOk.fn 0 (by kernel_rfl) trivial) chall.ok

/-! ### corsned/sign.Checks -/
abbrev schecks.D := Int × (List Int) × Int × (Int × (Int × Unit))
def schecks.st : schecks.D → List AVal × List Ent := fun (p, m, t, pre) => ([.d (.int .u64) p, .d (.arr 32 (.int .u8)) m, .d (.int .u64) t, .d (.pair (.int .u64) (.pair (.int .u64) .unit)) pre], [])
abbrev schecks.Y := Bool
abbrev schecks.X := Bool
def schecks.out : schecks.X → GRes := fun x => ⟨.d .bool x, [], []⟩
def schecks.add : schecks.D → schecks.Y → schecks.X := fun (p, m, t, pre) y => y


def schecks.Pre : schecks.D → Prop := fun (p, m, t, s) => U64 p ∧ Sm m ∧ U64 t ∧ SgU s
def schecks.F : schecks.D → schecks.Y := fun (p, m, t, s) => checks p m t s

noncomputable def schecks.G : Gam := gcons 62 anyArgs pright.E (gcons 88 anyArgs fright.E (gcons 145 anyArgs chall.E (gcons 106 anyArgs pscale.E (gcons 146 anyArgs pneg.E (gcons 144 anyArgs pall.E (gcons 44 anyArgs pbase.E (gnil)))))))
noncomputable def schecks.an : Ann := {
  objs := [],
  loops := fun r => { keep := [], sites := [], frz := [], data := [], owns := [] },
  outs := fun r b => { keep := [], sites := [], frz := [], data := [], owns := [] },
  sums := fun r => none,
  owns := [],
  trim := [],
  res := [] }
theorem schecks.eq {R : Type} (p : Int) (m : (List Int)) (t : Int) (pre : (Int × (Int × Unit))) (k : GRes → Option R) : arun Tryz.prog schecks.G schecks.an 0 Tryz.f105 (schecks.st (p, m, t, pre)).1 (schecks.st (p, m, t, pre)).2 k =
  sel ((ieq p (1 : Int))) (
   k (schecks.out false)) (
   obind (pright.call p) fun x1 =>
   sel ((!x1)) (
    k (schecks.out false)) (
    obind (pright.call t) fun x2 =>
    sel ((!x2)) (
     k (schecks.out false)) (
     obind (pright.call pre.1) fun x3 =>
     sel ((!x3)) (
      k (schecks.out false)) (
      obind (fright.call pre.2.1) fun x4 =>
      sel ((!x4)) (
       k (schecks.out false)) (
       obind (chall.call (pre.1, p, m)) fun x5 =>
       obind (pscale.call (p, x5)) fun x6 =>
       obind (pneg.call t) fun x7 =>
       obind (pall.call [pre.1, x6, x7]) fun x8 =>
       obind (pbase.call pre.2.1) fun x9 =>
       k (schecks.out (ieq x9 x8))))))) := by kernel_rfl


theorem schecks.ok : ∀ d, schecks.Pre d → arun Tryz.prog schecks.G schecks.an 0 Tryz.f105 (schecks.st d).1 (schecks.st d).2 some = some (schecks.out (schecks.add d (schecks.F d))) := by
  rintro ⟨p, m, t, s⟩ ⟨hp, hm, ht, hs⟩
  have hp : U64 p := hp
  have ht : U64 t := ht
  have hm : Sm m := hm
  have hs : SgU s := hs
  rw [schecks.eq, pright.run (d := p) hp, pright.run (d := t) ht, pright.run (d := s.1) hs.1, fright.run (d := s.2.1) trivial]
  simp only [obind_some, pright.add, pright.F, fright.add, fright.F, schecks.add, schecks.F, checks]
  by_cases h1 : p = 1
  · rw [ieq_true h1, sel_true, if_pos (Or.inl h1)]
  rw [ieq_false h1, sel_false]
  cases h2 : isP p
  · rw [if_pos (Or.inr (Or.inl rfl))]; rfl
  cases h3 : isP t
  · rw [if_pos (Or.inr (Or.inr (Or.inl rfl)))]; rfl
  cases h4 : isP s.1
  · rw [if_pos (Or.inr (Or.inr (Or.inr (Or.inl rfl))))]; rfl
  by_cases h5 : s.2.1 < 2305843009213688669
  · rw [ilt_true h5, if_neg (by simp [h1, h5])]
    have hq := chalQ_ok s.1 p m
    rw [chall.run (d := (s.1, p, m)) hm]
    simp only [Bool.not_true, sel_false, obind_some, chall.add, chall.F]
    rw [pscale.run (d := (p, chalQ s.1 p m)) ⟨hp, hq.u⟩, pneg.run (d := t) ht]
    simp only [obind_some, pscale.add, pscale.F, pneg.add, pneg.F]
    have q : pall.Pre [s.1, scaleP p (chalQ s.1 p m), negP t] := ⟨by
      intro x hx
      simp only [List.mem_cons, List.not_mem_nil, or_false] at hx
      rcases hx with rfl | rfl | rfl
      · exact hs.1
      · exact (pw_ok _ _).u
      · exact (pw_ok _ _).u, by simp only [List.length_cons, List.length_nil]; omega⟩
    rw [pall.run q, pbase.run (d := s.2.1) hs.2]
    rfl
  · rw [ilt_false h5, if_pos (Or.inr (Or.inr (Or.inr (Or.inr h5))))]; rfl

theorem schecks.inj : ∀ d d', schecks.st d = schecks.st d' → d = d' := fun (p, m, t, pre) (p', m', t', pre') hEq => by
  have e0 : p = p' := d_inj (t := (.int .u64)) (congrArg (fun s : List AVal × List Ent => (s.1.getD 0 .undef)) hEq)
  have e1 : m = m' := d_inj (t := (.arr 32 (.int .u8))) (congrArg (fun s : List AVal × List Ent => (s.1.getD 1 .undef)) hEq)
  have e2 : t = t' := d_inj (t := (.int .u64)) (congrArg (fun s : List AVal × List Ent => (s.1.getD 2 .undef)) hEq)
  have e3 : pre = pre' := d_inj (t := (.pair (.int .u64) (.pair (.int .u64) .unit))) (congrArg (fun s : List AVal × List Ent => (s.1.getD 3 .undef)) hEq)
  rw [e0, e1, e2, e3]
noncomputable def schecks.E : Entry := Entry.of [some (.int .u64), some (.arr 32 (.int .u8)), some (.int .u64), some (.pair (.int .u64) (.pair (.int .u64) .unit))] schecks.st schecks.Pre (fun d => schecks.add d (schecks.F d)) schecks.out
noncomputable def schecks.call : schecks.D → Option schecks.X := fun d => schecks.E.run (schecks.st d).1 (schecks.st d).2
theorem schecks.run {d : schecks.D} (h : schecks.Pre d) : schecks.call d = some (schecks.add d (schecks.F d)) := Entry.of_run schecks.inj h
theorem schecks.does : Does Tryz.prog 105 schecks.E := Does.of (by kernel_rfl) (show Sound _ schecks.G from Sound.cons pright.does (Sound.cons fright.does (Sound.cons chall.does (Sound.cons pscale.does (Sound.cons pneg.does (Sound.cons pall.does (Sound.cons pbase.does (Sound.nil _)))))))) (by kernel_rfl) (by kernel_rfl) (by kernel_rfl) (LOk.fn 0 (by kernel_rfl) trivial) schecks.ok

/-! ### corsned/sign.Verify -/
abbrev sverify.D := Int × (List Int) × (Int × (Int × Unit))
def sverify.st : sverify.D → List AVal × List Ent := fun (p, m, sv) => ([.d (.int .u64) p, .d (.arr 32 (.int .u8)) m, .d (.pair (.int .u64) (.pair (.int .u64) .unit)) sv], [])
abbrev sverify.Y := Bool
abbrev sverify.X := Bool
def sverify.out : sverify.X → GRes := fun x => ⟨.d .bool x, [], []⟩
def sverify.add : sverify.D → sverify.Y → sverify.X := fun (p, m, sv) y => y


def sverify.Pre : sverify.D → Prop := fun (p, m, s) => U64 p ∧ Sm m ∧ SgU s
def sverify.F : sverify.D → sverify.Y := fun (p, m, s) => checks p m 1 s

noncomputable def sverify.G : Gam := gcons 105 anyArgs schecks.E (gnil)
noncomputable def sverify.an : Ann := {
  objs := [],
  loops := fun r => { keep := [], sites := [], frz := [], data := [], owns := [] },
  outs := fun r b => { keep := [], sites := [], frz := [], data := [], owns := [] },
  sums := fun r => none,
  owns := [],
  trim := [],
  res := [] }
theorem sverify.eq {R : Type} (p : Int) (m : (List Int)) (sv : (Int × (Int × Unit))) (k : GRes → Option R) : arun Tryz.prog sverify.G sverify.an 0 Tryz.f43 (sverify.st (p, m, sv)).1 (sverify.st (p, m, sv)).2 k =
  obind (schecks.call (p, m, (1 : Int), sv)) fun x1 =>
  k (sverify.out x1) := by kernel_rfl


theorem sverify.ok : ∀ d, sverify.Pre d → arun Tryz.prog sverify.G sverify.an 0 Tryz.f43 (sverify.st d).1 (sverify.st d).2 some = some (sverify.out (sverify.add d (sverify.F d))) := by
  rintro ⟨p, m, s⟩ ⟨hp, hm, hs⟩
  rw [sverify.eq, schecks.run (d := (p, m, 1, s)) ⟨hp, hm, ⟨by omega, by omega⟩, hs⟩]
  rfl

theorem sverify.inj : ∀ d d', sverify.st d = sverify.st d' → d = d' := fun (p, m, sv) (p', m', sv') hEq => by
  have e0 : p = p' := d_inj (t := (.int .u64)) (congrArg (fun s : List AVal × List Ent => (s.1.getD 0 .undef)) hEq)
  have e1 : m = m' := d_inj (t := (.arr 32 (.int .u8))) (congrArg (fun s : List AVal × List Ent => (s.1.getD 1 .undef)) hEq)
  have e2 : sv = sv' := d_inj (t := (.pair (.int .u64) (.pair (.int .u64) .unit))) (congrArg (fun s : List AVal × List Ent => (s.1.getD 2 .undef)) hEq)
  rw [e0, e1, e2]
noncomputable def sverify.E : Entry := Entry.of [some (.int .u64), some (.arr 32 (.int .u8)), some (.pair (.int .u64) (.pair (.int .u64) .unit))] sverify.st sverify.Pre (fun d => sverify.add d (sverify.F d)) sverify.out
noncomputable def sverify.call : sverify.D → Option sverify.X := fun d => sverify.E.run (sverify.st d).1 (sverify.st d).2
theorem sverify.run {d : sverify.D} (h : sverify.Pre d) : sverify.call d = some (sverify.add d (sverify.F d)) := Entry.of_run sverify.inj h
theorem sverify.does : Does Tryz.prog 43 sverify.E := Does.of (by kernel_rfl) (show Sound _ sverify.G from Sound.cons schecks.does (Sound.nil _)) (by kernel_rfl) (by kernel_rfl) (by kernel_rfl) (LOk.fn 0 (by kernel_rfl) trivial) sverify.ok

/-! ### corsned/sign.key -/
abbrev skey.D := Int
def skey.st : skey.D → List AVal × List Ent := fun kv => ([.d (.int .u64) kv], [])
abbrev skey.Y := Bool
abbrev skey.X := Bool
def skey.out : skey.X → GRes := fun x => ⟨.d .bool x, [], []⟩
def skey.add : skey.D → skey.Y → skey.X := fun kv y => y


def skey.Pre : skey.D → Prop := fun _ => True
def skey.F : skey.D → skey.Y := fun k => decide (k < 2305843009213688669 ∧ k ≠ 0)

noncomputable def skey.G : Gam := gcons 88 anyArgs fright.E (gnil)
noncomputable def skey.an : Ann := {
  objs := [],
  loops := fun r => { keep := [], sites := [], frz := [], data := [], owns := [] },
  outs := fun r b => { keep := [], sites := [], frz := [], data := [], owns := [] },
  sums := fun r => none,
  owns := [],
  trim := [],
  res := [] }
theorem skey.eq {R : Type} (kv : Int) (k : GRes → Option R) : arun Tryz.prog skey.G skey.an 0 Tryz.f128 (skey.st kv).1 (skey.st kv).2 k =
  obind (fright.call kv) fun x1 =>
  sel (x1) (
   k (skey.out (ine kv (0 : Int)))) (
   k (skey.out false)) := by kernel_rfl


theorem skey.ok : ∀ d, skey.Pre d → arun Tryz.prog skey.G skey.an 0 Tryz.f128 (skey.st d).1 (skey.st d).2 some = some (skey.out (skey.add d (skey.F d))) := by
  intro k _
  rw [skey.eq, fright.run (d := k) trivial]
  simp only [obind_some, fright.add, fright.F, skey.add, skey.F]
  by_cases h : k < 2305843009213688669
  · rw [ilt_true h, sel_true]
    by_cases h0 : k = 0
    · rw [ine_false h0, dec_false (fun x => x.2 h0)]
    · rw [ine_true h0, dec_true ⟨h, h0⟩]
  · rw [ilt_false h, sel_false, dec_false (fun x => h x.1)]

theorem skey.inj : ∀ d d', skey.st d = skey.st d' → d = d' := fun kv kv' hEq => by
  have e0 : kv = kv' := d_inj (t := (.int .u64)) (congrArg (fun s : List AVal × List Ent => (s.1.getD 0 .undef)) hEq)
  rw [e0]
noncomputable def skey.E : Entry := Entry.of [some (.int .u64)] skey.st skey.Pre (fun d => skey.add d (skey.F d)) skey.out
noncomputable def skey.call : skey.D → Option skey.X := fun d => skey.E.run (skey.st d).1 (skey.st d).2
theorem skey.run {d : skey.D} (h : skey.Pre d) : skey.call d = some (skey.add d (skey.F d)) := Entry.of_run skey.inj h
theorem skey.does : Does Tryz.prog 128 skey.E := Does.of (by kernel_rfl) (show Sound _ skey.G from Sound.cons fright.does (Sound.nil _)) (by kernel_rfl) (by kernel_rfl) (by kernel_rfl) (LOk.fn 0 (by kernel_rfl) trivial) skey.ok

/-! ### corsned/sign.answer -/
abbrev sanswer.D := Int × Int × (List Int) × Int
def sanswer.st : sanswer.D → List AVal × List Ent := fun (kv, nonce, m, t) => ([.d (.int .u64) kv, .d (.int .u64) nonce, .d (.arr 32 (.int .u8)) m, .d (.int .u64) t], [])
abbrev sanswer.Y := (Int × (Int × Unit))
abbrev sanswer.X := (Int × (Int × Unit))
def sanswer.out : sanswer.X → GRes := fun x => ⟨.d (.pair (.int .u64) (.pair (.int .u64) .unit)) x, [], []⟩
def sanswer.add : sanswer.D → sanswer.Y → sanswer.X := fun (kv, nonce, m, t) y => y


def sanswer.Pre : sanswer.D → Prop := fun (k, n, m, t) => U64 k ∧ U64 n ∧ Sm m ∧ U64 t
def sanswer.F : sanswer.D → sanswer.Y := fun (k, n, m, t) => answerQ k n m t

noncomputable def sanswer.G : Gam := gcons 44 anyArgs pbase.E (gcons 158 anyArgs padd.E (gcons 145 anyArgs chall.E (gcons 160 anyArgs fmul.E (gcons 159 anyArgs fadd.E (gnil)))))
noncomputable def sanswer.an : Ann := {
  objs := [],
  loops := fun r => { keep := [], sites := [], frz := [], data := [], owns := [] },
  outs := fun r b => { keep := [], sites := [], frz := [], data := [], owns := [] },
  sums := fun r => none,
  owns := [],
  trim := [],
  res := [] }
theorem sanswer.eq {R : Type} (kv : Int) (nonce : Int) (m : (List Int)) (t : Int) (k : GRes → Option R) : arun Tryz.prog sanswer.G sanswer.an 0 Tryz.f129 (sanswer.st (kv, nonce, m, t)).1 (sanswer.st (kv, nonce, m, t)).2 k =
  obind (pbase.call nonce) fun x1 =>
  obind (padd.call (x1, t)) fun x2 =>
  obind (pbase.call kv) fun x3 =>
  obind (chall.call (x2, x3, m)) fun x4 =>
  obind (fmul.call (x4, kv)) fun x5 =>
  obind (fadd.call (nonce, x5)) fun x6 =>
  k (sanswer.out (x2, (x6, ()))) := by kernel_rfl


theorem sanswer.ok : ∀ d, sanswer.Pre d → arun Tryz.prog sanswer.G sanswer.an 0 Tryz.f129 (sanswer.st d).1 (sanswer.st d).2 some = some (sanswer.out (sanswer.add d (sanswer.F d))) := by
  rintro ⟨k, n, m, t⟩ ⟨hk, hn, hm, ht⟩
  have hk : U64 k := hk
  have hn : U64 n := hn
  have hm : Sm m := hm
  have ht : U64 t := ht
  rw [sanswer.eq, pbase.run (d := n) hn]
  simp only [obind_some, pbase.add, pbase.F]
  rw [padd.run (d := (baseP n, t)) ⟨(pw_ok _ _).u, ht⟩, pbase.run (d := k) hk]
  simp only [obind_some, pbase.add, pbase.F, padd.add, padd.F]
  rw [chall.run (d := (sumP [baseP n, t], baseP k, m)) hm]
  simp only [obind_some, chall.add, chall.F]
  rw [fmul.run (d := (chalQ (sumP [baseP n, t]) (baseP k) m, k)) ⟨(chalQ_ok _ _ _).u, hk⟩]
  simp only [obind_some, fmul.add, fmul.F]
  rw [fadd.run (d := (n, mulQ (chalQ (sumP [baseP n, t]) (baseP k) m) k)) ⟨hn, (mulQ_ok _ _).u⟩]
  rfl

theorem sanswer.inj : ∀ d d', sanswer.st d = sanswer.st d' → d = d' := fun (kv, nonce, m, t) (kv', nonce', m', t') hEq => by
  have e0 : kv = kv' := d_inj (t := (.int .u64)) (congrArg (fun s : List AVal × List Ent => (s.1.getD 0 .undef)) hEq)
  have e1 : nonce = nonce' := d_inj (t := (.int .u64)) (congrArg (fun s : List AVal × List Ent => (s.1.getD 1 .undef)) hEq)
  have e2 : m = m' := d_inj (t := (.arr 32 (.int .u8))) (congrArg (fun s : List AVal × List Ent => (s.1.getD 2 .undef)) hEq)
  have e3 : t = t' := d_inj (t := (.int .u64)) (congrArg (fun s : List AVal × List Ent => (s.1.getD 3 .undef)) hEq)
  rw [e0, e1, e2, e3]
noncomputable def sanswer.E : Entry := Entry.of [some (.int .u64), some (.int .u64), some (.arr 32 (.int .u8)), some (.int .u64)] sanswer.st sanswer.Pre (fun d => sanswer.add d (sanswer.F d)) sanswer.out
noncomputable def sanswer.call : sanswer.D → Option sanswer.X := fun d => sanswer.E.run (sanswer.st d).1 (sanswer.st d).2
theorem sanswer.run {d : sanswer.D} (h : sanswer.Pre d) : sanswer.call d = some (sanswer.add d (sanswer.F d)) := Entry.of_run sanswer.inj h
theorem sanswer.does : Does Tryz.prog 129 sanswer.E := Does.of (by kernel_rfl) (show Sound _ sanswer.G from Sound.cons pbase.does (Sound.cons padd.does (Sound.cons chall.does (Sound.cons fmul.does (Sound.cons fadd.does (Sound.nil _)))))) (by kernel_rfl) (by kernel_rfl) (by kernel_rfl) (LOk.fn 0 (by kernel_rfl) trivial) sanswer.ok

/-! ### corsned/sign.Sign -/
abbrev ssign.D := Int × (List Int)
def ssign.st : ssign.D → List AVal × List Ent := fun (kv, m) => ([.d (.int .u64) kv, .d (.arr 32 (.int .u8)) m], [])
abbrev ssign.Y := (Int × (Int × Unit))
abbrev ssign.X := (Int × (Int × Unit))
def ssign.out : ssign.X → GRes := fun x => ⟨.d (.pair (.int .u64) (.pair (.int .u64) .unit)) x, [], []⟩
def ssign.add : ssign.D → ssign.Y → ssign.X := fun (kv, m) y => y


def ssign.Pre : ssign.D → Prop := fun (k, m) => U64 k ∧ Sm m
def ssign.F : ssign.D → ssign.Y := fun (k, m) => signQ k m

noncomputable def ssign.G : Gam := gcons 128 anyArgs skey.E (gcons 130 anyArgs eight8.E (gcons 54 anyArgs htag.E (gcons 124 anyArgs ffrom.E (gcons 129 anyArgs sanswer.E (gnil)))))
noncomputable def ssign.an : Ann := {
  objs := [],
  loops := fun r => { keep := [], sites := [], frz := [], data := [], owns := [] },
  outs := fun r b => { keep := [], sites := [], frz := [], data := [], owns := [] },
  sums := fun r => none,
  owns := [],
  trim := [],
  res := [] }
theorem ssign.eq {R : Type} (kv : Int) (m : (List Int)) (k : GRes → Option R) : arun Tryz.prog ssign.G ssign.an 0 Tryz.f91 (ssign.st (kv, m)).1 (ssign.st (kv, m)).2 k =
  obind (skey.call kv) fun x1 =>
  sel ((!x1)) (
   k (ssign.out ((0 : Int), ((0 : Int), ())))) (
   obind (eight8.call kv) fun x2 =>
   obind (htag.call ((⟨#[110, 111, 110, 99, 101]⟩ : ByteArray), [x2, (cut m 0 32)])) fun x3 =>
   obind (ffrom.call x3) fun x4 =>
   obind (sanswer.call (kv, x4, m, (1 : Int))) fun x5 =>
   k (ssign.out x5)) := by kernel_rfl


theorem ssign.ok : ∀ d, ssign.Pre d → arun Tryz.prog ssign.G ssign.an 0 Tryz.f91 (ssign.st d).1 (ssign.st d).2 some = some (ssign.out (ssign.add d (ssign.F d))) := by
  rintro ⟨k, m⟩ ⟨hk, hm⟩
  have hk : U64 k := hk
  have hm : Sm m := hm
  rw [ssign.eq, skey.run (d := k) trivial]
  simp only [obind_some, skey.add, skey.F, ssign.add, ssign.F, signQ]
  by_cases h : k < 2305843009213688669 ∧ k ≠ 0
  · rw [dec_true h, if_pos h, eight8.run (d := k) trivial, cut_len hm.1]
    simp only [Bool.not_true, sel_false, obind_some, eight8.add, eight8.F]
    rw [htag.run (tag_pre2 (by decide) (by rw [be8_length]; omega) (by rw [hm.1]; omega))]
    simp only [obind_some, htag.add, htag.F]
    rw [ffrom.run (d := tag (bytesOfStr (⟨#[110, 111, 110, 99, 101]⟩ : ByteArray)) [be8 k, m]) (sm_tag _ _)]
    simp only [obind_some, ffrom.add, ffrom.F]
    have q := fromQ_ok (tag (bytesOfStr (⟨#[110, 111, 110, 99, 101]⟩ : ByteArray)) [be8 k, m])
    rw [sanswer.run (d := (k, fromQ (tag (bytesOfStr (⟨#[110, 111, 110, 99, 101]⟩ : ByteArray)) [be8 k, m]), m, 1)) ⟨hk, ⟨by omega, by omega⟩, hm, by omega, by omega⟩]
    rfl
  · rw [dec_false h, if_neg h]; rfl

theorem ssign.inj : ∀ d d', ssign.st d = ssign.st d' → d = d' := fun (kv, m) (kv', m') hEq => by
  have e0 : kv = kv' := d_inj (t := (.int .u64)) (congrArg (fun s : List AVal × List Ent => (s.1.getD 0 .undef)) hEq)
  have e1 : m = m' := d_inj (t := (.arr 32 (.int .u8))) (congrArg (fun s : List AVal × List Ent => (s.1.getD 1 .undef)) hEq)
  rw [e0, e1]
noncomputable def ssign.E : Entry := Entry.of [some (.int .u64), some (.arr 32 (.int .u8))] ssign.st ssign.Pre (fun d => ssign.add d (ssign.F d)) ssign.out
noncomputable def ssign.call : ssign.D → Option ssign.X := fun d => ssign.E.run (ssign.st d).1 (ssign.st d).2
theorem ssign.run {d : ssign.D} (h : ssign.Pre d) : ssign.call d = some (ssign.add d (ssign.F d)) := Entry.of_run ssign.inj h
theorem ssign.does : Does Tryz.prog 91 ssign.E := Does.of (by kernel_rfl) (show Sound _ ssign.G from Sound.cons skey.does (Sound.cons eight8.does (Sound.cons htag.does (Sound.cons ffrom.does (Sound.cons sanswer.does (Sound.nil _)))))) (by kernel_rfl) (by kernel_rfl) (by kernel_rfl) (LOk.fn 0 (by kernel_rfl) trivial) ssign.ok

end Go.Ab
namespace Go.Ab
open Go.Proofs
set_option maxRecDepth 100000
set_option linter.unusedVariables false
set_option linter.unusedSimpArgs false


/-- A branch; a lock. -/
abbrev Brn := List Int × (Int × (Int × (Int × Unit)))
abbrev Lk := List Brn × Unit
abbrev Wit := Int × (List Sg × (Int × Unit))
def KeysU (l : List Int) : Prop := ∀ x ∈ l, U64 x
def BrU (b : Brn) : Prop := KeysU b.1 ∧ U64 b.2.2.2.1
def LkU (l : Lk) : Prop := ∀ b ∈ l.1, BrU b
def htOk (n : Int) : Bool := decide (0 ≤ n ∧ n ≤ 1048576)
def brOk (b : Brn) : Bool := decide (b.1.length ≤ 12) && (b.1.all isP && (htOk b.2.1 && (htOk b.2.2.1 && (decide (b.2.2.2.1 = 0) || isP b.2.2.2.1))))
def lkOk (l : Lk) : Bool := l.1.all brOk && decide (0 < l.1.length ∧ l.1.length ≤ 4)
def badFrom : List Int → Int → Int ⊕ Unit
  | [], _ => .inr ()
  | p :: ps, i => if isP p then badFrom ps (i + 1) else .inl i
def badAt (l : List Int) : Int := match badFrom l 0 with | .inl i => i | .inr _ => -1
theorem badFrom_all : ∀ (l : List Int) (i : Int), 0 ≤ i → (match badFrom l i with | .inl i => decide (i ≥ 0) | .inr _ => false) = !(l.all isP)
  | [], _, _ => rfl
  | p :: ps, i, h => by
    rw [badFrom, List.all_cons]
    cases hp : isP p
    · simp [h]
    · simp only [if_true, Bool.true_and]
      exact badFrom_all ps (i + 1) (by omega)
theorem badAt_all (l : List Int) : ige (badAt l) 0 = !(l.all isP) := by
  have := badFrom_all l 0 (by omega)
  unfold badAt ige
  cases h : badFrom l 0
  · rw [h] at this; exact this
  · rw [h] at this; rw [← this]; rfl

/-! ### corsned/lock.Right$1 -/
abbrev lbad.D := Int
def lbad.st : lbad.D → List AVal × List Ent := fun p => ([.d (.int .u64) p], [])
abbrev lbad.Y := Bool
abbrev lbad.X := Bool
def lbad.out : lbad.X → GRes := fun x => ⟨.d .bool x, [], []⟩
def lbad.add : lbad.D → lbad.Y → lbad.X := fun p y => y


def lbad.Pre : lbad.D → Prop := fun p => U64 p
def lbad.F : lbad.D → lbad.Y := fun p => !isP p

noncomputable def lbad.G : Gam := gcons 62 anyArgs pright.E (gnil)
noncomputable def lbad.an : Ann := {
  objs := [],
  loops := fun r => { keep := [], sites := [], frz := [], data := [], owns := [] },
  outs := fun r b => { keep := [], sites := [], frz := [], data := [], owns := [] },
  sums := fun r => none,
  owns := [],
  trim := [],
  res := [] }
theorem lbad.eq {R : Type} (p : Int) (k : GRes → Option R) : arun Tryz.prog lbad.G lbad.an 0 Tryz.f61 (lbad.st p).1 (lbad.st p).2 k =
  obind (pright.call p) fun x1 =>
  k (lbad.out (!x1)) := by kernel_rfl


theorem lbad.ok : ∀ d, lbad.Pre d → arun Tryz.prog lbad.G lbad.an 0 Tryz.f61 (lbad.st d).1 (lbad.st d).2 some = some (lbad.out (lbad.add d (lbad.F d))) := by
  intro p hp
  rw [lbad.eq, pright.run (d := p) hp]
  rfl

theorem lbad.inj : ∀ d d', lbad.st d = lbad.st d' → d = d' := fun p p' hEq => by
  have e0 : p = p' := d_inj (t := (.int .u64)) (congrArg (fun s : List AVal × List Ent => (s.1.getD 0 .undef)) hEq)
  rw [e0]
noncomputable def lbad.E : Entry := Entry.of [some (.int .u64)] lbad.st lbad.Pre (fun d => lbad.add d (lbad.F d)) lbad.out
noncomputable def lbad.call : lbad.D → Option lbad.X := fun d => lbad.E.run (lbad.st d).1 (lbad.st d).2
theorem lbad.run {d : lbad.D} (h : lbad.Pre d) : lbad.call d = some (lbad.add d (lbad.F d)) := Entry.of_run lbad.inj h
theorem lbad.does : Does Tryz.prog 61 lbad.E := Does.of (by kernel_rfl) (show Sound _ lbad.G from Sound.cons pright.does (Sound.nil _)) (by kernel_rfl) (by kernel_rfl) (by kernel_rfl) (LOk.fn 0 (by kernel_rfl) trivial) lbad.ok

/-! ### slices.IndexFunc[[]corsned/api.Point,corsned/api.Point] -/
abbrev pindex.L0.D := (List Int) × Int × Int
def pindex.L0.st : pindex.L0.D → AS := fun (sv_2, t7, t8) => ⟨([.d (.slice (.int .u64)) sv_2, .fn 61 (.nil)] ++ undN 5 ([.d (.int .i64) t7, .d (.int .i64) t8] ++ undN 10 [])), [], (List.replicate 19 [])⟩
abbrev pindex.L0.Y0 := Int  -- t4
abbrev pindex.L0.X0 := Int
def pindex.L0.ex0 : pindex.L0.X0 → Exit × AS := fun x => (.ret, ⟨(undN 4 ([.d (.int .i64) x] ++ undN 14 [])), [], (List.replicate 19 [])⟩)
abbrev pindex.L0.Y1 := Unit
abbrev pindex.L0.X1 := Unit
def pindex.L0.ex1 : pindex.L0.X1 → Exit × AS := fun x => (.exit 0, ⟨(undN 19 []), [], (List.replicate 19 [])⟩)
abbrev pindex.L0.X := (pindex.L0.X0) ⊕ (pindex.L0.X1)
abbrev pindex.L0.Y := (pindex.L0.Y0) ⊕ (pindex.L0.Y1)
def pindex.L0.out : pindex.L0.X → Out (Exit × AS) := fun x => .br x.isLeft (.get x.getLeft? fun a => .ok (pindex.L0.ex0 a)) (.get x.getRight? fun b => .ok (pindex.L0.ex1 b))
def pindex.L0.add : pindex.L0.D → pindex.L0.Y → pindex.L0.X := fun (sv_2, t7, t8) y => match y with | .inl y => .inl y | .inr z => .inr (z)
abbrev pindex.D := (List Int)
def pindex.st : pindex.D → List AVal × List Ent := fun sv => ([.d (.slice (.int .u64)) sv, .fn 61 (.nil)], [])
abbrev pindex.Y := Int
abbrev pindex.X := Int
def pindex.out : pindex.X → GRes := fun x => ⟨.d (.int .i64) x, [], []⟩
def pindex.add : pindex.D → pindex.Y → pindex.X := fun sv y => y


def pindex.L0.Pre : pindex.L0.D → Prop := fun (l, n, i) => KeysU l ∧ l.length ≤ 1000000000 ∧ n = l.length ∧ ∃ k : Nat, k ≤ l.length ∧ i = k
def pindex.L0.F : pindex.L0.D → pindex.L0.Y := fun (l, n, i) => badFrom (l.drop i.toNat) i
def pindex.Pre : pindex.D → Prop := fun l => KeysU l ∧ l.length ≤ 1000000000
def pindex.F : pindex.D → pindex.Y := fun l => badAt l

noncomputable def pindex.G : Gam := gcons 61 anyArgs lbad.E (gnil)
noncomputable def pindex.L0.E : LEntry := LEntry.of pindex.L0.st pindex.L0.Pre (fun d => pindex.L0.add d (pindex.L0.F d)) pindex.L0.out
noncomputable def pindex.L0.call : pindex.L0.D → Option pindex.L0.X := fun d => pindex.L0.E.run (pindex.L0.st d)
noncomputable def pindex.an : Ann := {
  objs := [],
  loops := fun r => bif Nat.beq r 2 then { keep := [0, 1, 7, 8], sites := [], frz := [], data := [], owns := [] } else { keep := [], sites := [], frz := [], data := [], owns := [] },
  outs := fun r b => bif Nat.beq r 2 then (bif b then { keep := [4], sites := [], frz := [], data := [], owns := [] } else { keep := [], sites := [], frz := [], data := [], owns := [] }) else { keep := [], sites := [], frz := [], data := [], owns := [] },
  sums := fun r => bif Nat.beq r 2 then some pindex.L0.E else none,
  owns := [],
  trim := [],
  res := [] }
theorem pindex.L0.inj : ∀ d d', pindex.L0.st d = pindex.L0.st d' → d = d' := fun (sv_2, t7, t8) (sv_2', t7', t8') hEq => by
  have e0 : sv_2 = sv_2' := d_inj (t := (.slice (.int .u64))) (congrArg (fun s : AS => (s.slot 0)) hEq)
  have e1 : t7 = t7' := d_inj (t := (.int .i64)) (congrArg (fun s : AS => (s.slot 7)) hEq)
  have e2 : t8 = t8' := d_inj (t := (.int .i64)) (congrArg (fun s : AS => (s.slot 8)) hEq)
  rw [e0, e1, e2]
theorem pindex.L0.run {d : pindex.L0.D} (h : pindex.L0.Pre d) : pindex.L0.call d = some (pindex.L0.add d (pindex.L0.F d)) := LEntry.of_run pindex.L0.inj h
theorem pindex.L0.byRounds (μ : pindex.L0.D → Nat) (h : ∀ d, pindex.L0.Pre d → (∃ d', pindex.L0.Pre d' ∧ μ d' < μ d ∧ pindex.L0.add d' (pindex.L0.F d') = pindex.L0.add d (pindex.L0.F d) ∧ ∀ {R : Type} (kn : AS → Option R) (kx : Exit → AS → Option R), lround Tryz.prog pindex.G pindex.an 0 Tryz.f117 0 (pindex.L0.st d) kn kx = kn (pindex.L0.st d')) ∨ (∃ r, (pindex.L0.out (pindex.L0.add d (pindex.L0.F d))).eval = some r ∧ ∀ {R : Type} (kn : AS → Option R) (kx : Exit → AS → Option R), lround Tryz.prog pindex.G pindex.an 0 Tryz.f117 0 (pindex.L0.st d) kn kx = kx r.1 r.2)) : ∀ d, pindex.L0.Pre d → ∃ n, lrun Tryz.prog pindex.G pindex.an 0 Tryz.f117 0 n (pindex.L0.st d) (fun e s => some (e, s)) = (pindex.L0.out (pindex.L0.add d (pindex.L0.F d))).eval := lrun_of (F := fun d => pindex.L0.add d (pindex.L0.F d)) (out := pindex.L0.out) μ h
theorem pindex.L0.step {R : Type} (sv_2 : (List Int)) (t7 : Int) (t8 : Int) (kn : AS → Option R) (kx : Exit → AS → Option R) : lround Tryz.prog pindex.G pindex.an 0 Tryz.f117 0 (pindex.L0.st (sv_2, t7, t8)) kn kx =
  sel ((ilt t8 t7)) (
   sel (inb t8 (((List.length sv_2) : Nat) : Int)) (
   obind (lbad.call (nth (.int .u64) sv_2 (Int.toNat t8))) fun x1 =>
   sel (x1) (
    kx (pindex.L0.ex0 t8).1 (pindex.L0.ex0 t8).2) (
    kn (pindex.L0.st (sv_2, t7, (iadd .i64 t8 (1 : Int)))))) none) (
   kx (pindex.L0.ex1 ()).1 (pindex.L0.ex1 ()).2) := by kernel_rfl
theorem pindex.eq {R : Type} (sv : (List Int)) (k : GRes → Option R) : arun Tryz.prog pindex.G pindex.an 0 Tryz.f117 (pindex.st sv).1 (pindex.st sv).2 k =
  obind (pindex.L0.call (sv, (((List.length sv) : Nat) : Int), (0 : Int))) fun x2 =>
  sel (x2.isLeft) (
   obind (x2.getLeft?) fun a3 =>
   k (pindex.out a3)) (
   obind (x2.getRight?) fun b4 =>
   k (pindex.out (-1 : Int))) := by kernel_rfl


theorem pindex.L0.ok : ∀ d, pindex.L0.Pre d → ∃ n, lrun Tryz.prog pindex.G pindex.an 0 Tryz.f117 0 n (pindex.L0.st d) (fun e s => some (e, s)) = (pindex.L0.out (pindex.L0.add d (pindex.L0.F d))).eval := by
  refine pindex.L0.byRounds (fun (l, n, i) => l.length - i.toNat) ?_
  rintro ⟨l, n, i⟩ ⟨hl, hb, rfl, k, hk, rfl⟩
  have hb : l.length ≤ 1000000000 := hb
  have hk : k ≤ l.length := hk
  by_cases h : k < l.length
  · have hx := hl _ (List.getElem_mem h)
    have n1 : nth (.int .u64) l k = l[k] := nth_lt (t := .int .u64) h
    have hd : badFrom (l.drop k) k = if isP l[k] then badFrom (l.drop (k + 1)) ((k + 1 : Nat) : Int) else .inl (k : Int) := by rw [List.drop_eq_getElem_cons h]; rfl
    cases hp : isP l[k]
    · right
      refine ⟨pindex.L0.ex0 (k : Int), ?_, fun kn kx => ?_⟩
      · simp only [pindex.L0.add, pindex.L0.F, Int.toNat_natCast, hd, hp, Bool.false_eq_true, if_false]
        rfl
      · rw [pindex.L0.step]
        simp (disch := omega) only [↓N.lt, ↓N.le, ↓N.gt, ↓N.ge, ↓N.eq, ↓N.ne, ↓N.ib, ↓N.ic, ↓N.nn, ↓N.nz, ↓N.dc, ↓N.rm, ↓N.an, ↓N.or, ↓N.no, ↓if_pos, ↓if_neg, ↓sel_true, ↓sel_false, ↓obind_some, if_pos, if_neg, obind_some, N.aNN, N.aNL, N.aLN, N.sNN, N.sNL, N.sLN, N.mNN, N.mNL, N.mLN, N.qNN, N.qNL, N.rNN, N.rNL, N.cN, N.cL, N.tL, Int.toNat_natCast, if_true, if_false, and_self, true_and, and_true, n1]
        rw [lbad.run (d := l[k]) hx]
        simp only [obind_some, lbad.add, lbad.F, hp, Bool.not_false, sel_true]
    · left
      refine ⟨(l, l.length, ((k + 1 : Nat) : Int)), ⟨hl, hb, rfl, k + 1, by omega, rfl⟩, by simp only [Int.toNat_natCast]; omega, ?_, fun kn kx => ?_⟩
      · simp only [pindex.L0.add, pindex.L0.F, Int.toNat_natCast, hd, hp, if_true]
      · rw [pindex.L0.step]
        simp (disch := omega) only [↓N.lt, ↓N.le, ↓N.gt, ↓N.ge, ↓N.eq, ↓N.ne, ↓N.ib, ↓N.ic, ↓N.nn, ↓N.nz, ↓N.dc, ↓N.rm, ↓N.an, ↓N.or, ↓N.no, ↓if_pos, ↓if_neg, ↓sel_true, ↓sel_false, ↓obind_some, if_pos, if_neg, obind_some, N.aNN, N.aNL, N.aLN, N.sNN, N.sNL, N.sLN, N.mNN, N.mNL, N.mLN, N.qNN, N.qNL, N.rNN, N.rNL, N.cN, N.cL, N.tL, Int.toNat_natCast, if_true, if_false, and_self, true_and, and_true, n1]
        rw [lbad.run (d := l[k]) hx]
        simp only [obind_some, lbad.add, lbad.F, hp, Bool.not_true, sel_false]
  · right
    obtain rfl : k = l.length := by omega
    refine ⟨pindex.L0.ex1 (), ?_, fun kn kx => ?_⟩
    · simp only [pindex.L0.add, pindex.L0.F, Int.toNat_natCast, List.drop_length]
      rfl
    · rw [pindex.L0.step]
      simp (disch := omega) only [↓N.lt, ↓N.le, ↓N.gt, ↓N.ge, ↓N.eq, ↓N.ne, ↓N.ib, ↓N.ic, ↓N.nn, ↓N.nz, ↓N.dc, ↓N.rm, ↓N.an, ↓N.or, ↓N.no, ↓if_pos, ↓if_neg, ↓sel_true, ↓sel_false, ↓obind_some, if_pos, if_neg, obind_some, N.aNN, N.aNL, N.aLN, N.sNN, N.sNL, N.sLN, N.mNN, N.mNL, N.mLN, N.qNN, N.qNL, N.rNN, N.rNL, N.cN, N.cL, N.tL, Int.toNat_natCast, if_true, if_false, and_self, true_and, and_true]
theorem pindex.ok : ∀ d, pindex.Pre d → arun Tryz.prog pindex.G pindex.an 0 Tryz.f117 (pindex.st d).1 (pindex.st d).2 some = some (pindex.out (pindex.add d (pindex.F d))) := by
  rintro l ⟨hl, hb⟩
  rw [pindex.eq, pindex.L0.run (d := (l, l.length, 0)) ⟨hl, hb, rfl, 0, by omega, rfl⟩]
  simp only [obind_some, pindex.L0.add, pindex.L0.F, Int.toNat_zero, List.drop_zero, pindex.add, pindex.F, badAt]
  cases badFrom l 0 <;> rfl

theorem pindex.inj : ∀ d d', pindex.st d = pindex.st d' → d = d' := fun sv sv' hEq => by
  have e0 : sv = sv' := d_inj (t := (.slice (.int .u64))) (congrArg (fun s : List AVal × List Ent => (s.1.getD 0 .undef)) hEq)
  rw [e0]
noncomputable def pindex.E : Entry := Entry.of [some (.slice (.int .u64)), none] pindex.st pindex.Pre (fun d => pindex.add d (pindex.F d)) pindex.out
noncomputable def pindex.call : pindex.D → Option pindex.X := fun d => pindex.E.run (pindex.st d).1 (pindex.st d).2
theorem pindex.run {d : pindex.D} (h : pindex.Pre d) : pindex.call d = some (pindex.add d (pindex.F d)) := Entry.of_run pindex.inj h
theorem pindex.does : Does Tryz.prog 117 pindex.E := Does.of (by kernel_rfl) (show Sound _ pindex.G from Sound.cons lbad.does (Sound.nil _)) (by kernel_rfl) (by kernel_rfl) (by kernel_rfl) (LOk.fn 1 (by kernel_rfl) (And.intro (LDo.of (by kernel_rfl) pindex.L0.ok) trivial)) pindex.ok

/-! ### slices.ContainsFunc[[]corsned/api.Point,corsned/api.Point] -/
abbrev pcontains.D := (List Int)
def pcontains.st : pcontains.D → List AVal × List Ent := fun sv => ([.d (.slice (.int .u64)) sv, .fn 61 (.nil)], [])
abbrev pcontains.Y := Bool
abbrev pcontains.X := Bool
def pcontains.out : pcontains.X → GRes := fun x => ⟨.d .bool x, [], []⟩
def pcontains.add : pcontains.D → pcontains.Y → pcontains.X := fun sv y => y


def pcontains.Pre : pcontains.D → Prop := fun l => KeysU l ∧ l.length ≤ 1000000000
def pcontains.F : pcontains.D → pcontains.Y := fun l => !(l.all isP)

noncomputable def pcontains.G : Gam := gcons 117 anyArgs pindex.E (gnil)
noncomputable def pcontains.an : Ann := {
  objs := [],
  loops := fun r => { keep := [], sites := [], frz := [], data := [], owns := [] },
  outs := fun r b => { keep := [], sites := [], frz := [], data := [], owns := [] },
  sums := fun r => none,
  owns := [],
  trim := [],
  res := [] }
theorem pcontains.eq {R : Type} (sv : (List Int)) (k : GRes → Option R) : arun Tryz.prog pcontains.G pcontains.an 0 Tryz.f63 (pcontains.st sv).1 (pcontains.st sv).2 k =
  obind (pindex.call sv) fun x1 =>
  k (pcontains.out (ige x1 (0 : Int))) := by kernel_rfl


theorem pcontains.ok : ∀ d, pcontains.Pre d → arun Tryz.prog pcontains.G pcontains.an 0 Tryz.f63 (pcontains.st d).1 (pcontains.st d).2 some = some (pcontains.out (pcontains.add d (pcontains.F d))) := by
  rintro l ⟨hl, hb⟩
  rw [pcontains.eq, pindex.run (d := l) ⟨hl, hb⟩]
  simp only [obind_some, pindex.add, pindex.F, badAt_all]
  rfl

theorem pcontains.inj : ∀ d d', pcontains.st d = pcontains.st d' → d = d' := fun sv sv' hEq => by
  have e0 : sv = sv' := d_inj (t := (.slice (.int .u64))) (congrArg (fun s : List AVal × List Ent => (s.1.getD 0 .undef)) hEq)
  rw [e0]
noncomputable def pcontains.E : Entry := Entry.of [some (.slice (.int .u64)), none] pcontains.st pcontains.Pre (fun d => pcontains.add d (pcontains.F d)) pcontains.out
noncomputable def pcontains.call : pcontains.D → Option pcontains.X := fun d => pcontains.E.run (pcontains.st d).1 (pcontains.st d).2
theorem pcontains.run {d : pcontains.D} (h : pcontains.Pre d) : pcontains.call d = some (pcontains.add d (pcontains.F d)) := Entry.of_run pcontains.inj h
theorem pcontains.does : Does Tryz.prog 63 pcontains.E := Does.of (by kernel_rfl) (show Sound _ pcontains.G from Sound.cons pindex.does (Sound.nil _)) (by kernel_rfl) (by kernel_rfl) (by kernel_rfl) (LOk.fn 0 (by kernel_rfl) trivial) pcontains.ok

/-! ### corsned/lock.height -/
abbrev lheight.D := Int
def lheight.st : lheight.D → List AVal × List Ent := fun n => ([.d (.int .i64) n], [])
abbrev lheight.Y := Bool
abbrev lheight.X := Bool
def lheight.out : lheight.X → GRes := fun x => ⟨.d .bool x, [], []⟩
def lheight.add : lheight.D → lheight.Y → lheight.X := fun n y => y


def lheight.Pre : lheight.D → Prop := fun _ => True
def lheight.F : lheight.D → lheight.Y := fun n => htOk n

noncomputable def lheight.G : Gam := gnil
noncomputable def lheight.an : Ann := {
  objs := [],
  loops := fun r => { keep := [], sites := [], frz := [], data := [], owns := [] },
  outs := fun r b => { keep := [], sites := [], frz := [], data := [], owns := [] },
  sums := fun r => none,
  owns := [],
  trim := [],
  res := [] }
theorem lheight.eq {R : Type} (n : Int) (k : GRes → Option R) : arun Tryz.prog lheight.G lheight.an 0 Tryz.f64 (lheight.st n).1 (lheight.st n).2 k =
  sel ((ige n (0 : Int))) (
   k (lheight.out (ile n (1048576 : Int)))) (
   k (lheight.out false)) := by kernel_rfl


theorem lheight.ok : ∀ d, lheight.Pre d → arun Tryz.prog lheight.G lheight.an 0 Tryz.f64 (lheight.st d).1 (lheight.st d).2 some = some (lheight.out (lheight.add d (lheight.F d))) := by
  intro n _
  rw [lheight.eq]
  simp only [lheight.add, lheight.F, htOk]
  by_cases h : 0 ≤ n
  · rw [ige_true h, sel_true]
    by_cases h2 : n ≤ 1048576
    · rw [ile_true h2, dec_true ⟨h, h2⟩]
    · rw [ile_false h2, dec_false (fun x => h2 x.2)]
  · rw [ige_false h, sel_false, dec_false (fun x => h x.1)]

theorem lheight.inj : ∀ d d', lheight.st d = lheight.st d' → d = d' := fun n n' hEq => by
  have e0 : n = n' := d_inj (t := (.int .i64)) (congrArg (fun s : List AVal × List Ent => (s.1.getD 0 .undef)) hEq)
  rw [e0]
noncomputable def lheight.E : Entry := Entry.of [some (.int .i64)] lheight.st lheight.Pre (fun d => lheight.add d (lheight.F d)) lheight.out
noncomputable def lheight.call : lheight.D → Option lheight.X := fun d => lheight.E.run (lheight.st d).1 (lheight.st d).2
theorem lheight.run {d : lheight.D} (h : lheight.Pre d) : lheight.call d = some (lheight.add d (lheight.F d)) := Entry.of_run lheight.inj h
theorem lheight.does : Does Tryz.prog 64 lheight.E := Does.of (by kernel_rfl) (show Sound _ lheight.G from Sound.nil _) (by kernel_rfl) (by kernel_rfl) (by kernel_rfl) (LOk.fn 0 (by kernel_rfl) trivial) lheight.ok

end Go.Ab
namespace Go.Ab
open Go.Proofs
set_option maxRecDepth 100000
set_option linter.unusedVariables false
set_option linter.unusedSimpArgs false

/-! ### corsned/lock.Right -/
abbrev lright.L0.D := ((List ((List Int) × (Int × (Int × (Int × Unit))))) × Unit) × (List ((List Int) × (Int × (Int × (Int × Unit))))) × Int × Int
def lright.L0.st : lright.L0.D → AS := fun (l_2, t7, t8, t9) => ⟨([.undef, .rptr (.pair (.slice (.pair (.slice (.int .u64)) (.pair (.int .i64) (.pair (.int .i64) (.pair (.int .u64) .unit))))) .unit) l_2, .undef, .fn 61 (.nil), .undef, .undef, .undef, .d (.slice (.pair (.slice (.int .u64)) (.pair (.int .i64) (.pair (.int .i64) (.pair (.int .u64) .unit))))) t7, .d (.int .i64) t8, .d (.int .i64) t9] ++ undN 47 []), [], (List.replicate 57 [])⟩
abbrev lright.L0.Y0 := Unit
abbrev lright.L0.X0 := Unit
def lright.L0.ex0 : lright.L0.X0 → Exit × AS := fun x => (.ret, ⟨([.undef, .undef, .d .bool false] ++ undN 54 []), [], (List.replicate 57 [])⟩)
abbrev lright.L0.Y1 := Unit
abbrev lright.L0.X1 := ((List ((List Int) × (Int × (Int × (Int × Unit))))) × Unit)
def lright.L0.ex1 : lright.L0.X1 → Exit × AS := fun x => (.exit 0, ⟨([.undef, .rptr (.pair (.slice (.pair (.slice (.int .u64)) (.pair (.int .i64) (.pair (.int .i64) (.pair (.int .u64) .unit))))) .unit) x] ++ undN 55 []), [], (List.replicate 57 [])⟩)
abbrev lright.L0.X := (lright.L0.X0) ⊕ (lright.L0.X1)
abbrev lright.L0.Y := (lright.L0.Y0) ⊕ (lright.L0.Y1)
def lright.L0.out : lright.L0.X → Out (Exit × AS) := fun x => .br x.isLeft (.get x.getLeft? fun a => .ok (lright.L0.ex0 a)) (.get x.getRight? fun b => .ok (lright.L0.ex1 b))
def lright.L0.add : lright.L0.D → lright.L0.Y → lright.L0.X := fun (l_2, t7, t8, t9) y => match y with | .inl y => .inl y | .inr z => .inr (l_2)
abbrev lright.D := ((List ((List Int) × (Int × (Int × (Int × Unit))))) × Unit)
def lright.st : lright.D → List AVal × List Ent := fun l => ([.d (.pair (.slice (.pair (.slice (.int .u64)) (.pair (.int .i64) (.pair (.int .i64) (.pair (.int .u64) .unit))))) .unit) l], [])
abbrev lright.Y := Bool
abbrev lright.X := Bool
def lright.out : lright.X → GRes := fun x => ⟨.d .bool x, [], []⟩
def lright.add : lright.D → lright.Y → lright.X := fun l y => y


def lright.L0.Pre : lright.L0.D → Prop := fun (l, bs, n, i) => (∀ b ∈ bs, BrU b) ∧ bs.length ≤ 1000000000 ∧ n = bs.length ∧ ∃ k : Nat, k ≤ bs.length ∧ i = k
def lright.L0.F : lright.L0.D → lright.L0.Y := fun (l, bs, n, i) => if (bs.drop i.toNat).all brOk then .inr () else .inl ()
def lright.Pre : lright.D → Prop := fun l => LkU l ∧ l.1.length ≤ 1000000000
def lright.F : lright.D → lright.Y := fun l => lkOk l

noncomputable def lright.G : Gam := gcons 63 anyArgs pcontains.E (gcons 64 anyArgs lheight.E (gcons 61 anyArgs lbad.E (gnil)))
noncomputable def lright.L0.E : LEntry := LEntry.of lright.L0.st lright.L0.Pre (fun d => lright.L0.add d (lright.L0.F d)) lright.L0.out
noncomputable def lright.L0.call : lright.L0.D → Option lright.L0.X := fun d => lright.L0.E.run (lright.L0.st d)
noncomputable def lright.an : Ann := {
  objs := [],
  loops := fun r => bif Nat.beq r 3 then { keep := [1, 3, 7, 8, 9], sites := [], frz := [], data := [], owns := [] } else { keep := [], sites := [], frz := [], data := [], owns := [] },
  outs := fun r b => bif Nat.beq r 3 then (bif b then { keep := [2], sites := [], frz := [], data := [], owns := [] } else { keep := [1], sites := [], frz := [], data := [], owns := [] }) else { keep := [], sites := [], frz := [], data := [], owns := [] },
  sums := fun r => bif Nat.beq r 3 then some lright.L0.E else none,
  owns := [],
  trim := [],
  res := [] }
theorem lright.L0.inj : ∀ d d', lright.L0.st d = lright.L0.st d' → d = d' := fun (l_2, t7, t8, t9) (l_2', t7', t8', t9') hEq => by
  have e0 : l_2 = l_2' := rptr_inj (t := (.pair (.slice (.pair (.slice (.int .u64)) (.pair (.int .i64) (.pair (.int .i64) (.pair (.int .u64) .unit))))) .unit)) (congrArg (fun s : AS => (s.slot 1)) hEq)
  have e1 : t7 = t7' := d_inj (t := (.slice (.pair (.slice (.int .u64)) (.pair (.int .i64) (.pair (.int .i64) (.pair (.int .u64) .unit)))))) (congrArg (fun s : AS => (s.slot 7)) hEq)
  have e2 : t8 = t8' := d_inj (t := (.int .i64)) (congrArg (fun s : AS => (s.slot 8)) hEq)
  have e3 : t9 = t9' := d_inj (t := (.int .i64)) (congrArg (fun s : AS => (s.slot 9)) hEq)
  rw [e0, e1, e2, e3]
theorem lright.L0.run {d : lright.L0.D} (h : lright.L0.Pre d) : lright.L0.call d = some (lright.L0.add d (lright.L0.F d)) := LEntry.of_run lright.L0.inj h
theorem lright.L0.byRounds (μ : lright.L0.D → Nat) (h : ∀ d, lright.L0.Pre d → (∃ d', lright.L0.Pre d' ∧ μ d' < μ d ∧ lright.L0.add d' (lright.L0.F d') = lright.L0.add d (lright.L0.F d) ∧ ∀ {R : Type} (kn : AS → Option R) (kx : Exit → AS → Option R), lround Tryz.prog lright.G lright.an 0 Tryz.f13 0 (lright.L0.st d) kn kx = kn (lright.L0.st d')) ∨ (∃ r, (lright.L0.out (lright.L0.add d (lright.L0.F d))).eval = some r ∧ ∀ {R : Type} (kn : AS → Option R) (kx : Exit → AS → Option R), lround Tryz.prog lright.G lright.an 0 Tryz.f13 0 (lright.L0.st d) kn kx = kx r.1 r.2)) : ∀ d, lright.L0.Pre d → ∃ n, lrun Tryz.prog lright.G lright.an 0 Tryz.f13 0 n (lright.L0.st d) (fun e s => some (e, s)) = (lright.L0.out (lright.L0.add d (lright.L0.F d))).eval := lrun_of (F := fun d => lright.L0.add d (lright.L0.F d)) (out := lright.L0.out) μ h
theorem lright.L0.step {R : Type} (l_2 : ((List ((List Int) × (Int × (Int × (Int × Unit))))) × Unit)) (t7 : (List ((List Int) × (Int × (Int × (Int × Unit)))))) (t8 : Int) (t9 : Int) (kn : AS → Option R) (kx : Exit → AS → Option R) : lround Tryz.prog lright.G lright.an 0 Tryz.f13 0 (lright.L0.st (l_2, t7, t8, t9)) kn kx =
  sel ((ilt t9 t8)) (
   sel (inb t9 (((List.length t7) : Nat) : Int)) (
   sel ((igt (((List.length (nth (.pair (.slice (.int .u64)) (.pair (.int .i64) (.pair (.int .i64) (.pair (.int .u64) .unit)))) t7 (Int.toNat t9)).1) : Nat) : Int) (12 : Int))) (
    kx (lright.L0.ex0 ()).1 (lright.L0.ex0 ()).2) (
    obind (pcontains.call (nth (.pair (.slice (.int .u64)) (.pair (.int .i64) (.pair (.int .i64) (.pair (.int .u64) .unit)))) t7 (Int.toNat t9)).1) fun x1 =>
    sel (x1) (
     kx (lright.L0.ex0 ()).1 (lright.L0.ex0 ()).2) (
     obind (lheight.call (nth (.pair (.slice (.int .u64)) (.pair (.int .i64) (.pair (.int .i64) (.pair (.int .u64) .unit)))) t7 (Int.toNat t9)).2.1) fun x2 =>
     sel ((!x2)) (
      kx (lright.L0.ex0 ()).1 (lright.L0.ex0 ()).2) (
      obind (lheight.call (nth (.pair (.slice (.int .u64)) (.pair (.int .i64) (.pair (.int .i64) (.pair (.int .u64) .unit)))) t7 (Int.toNat t9)).2.2.1) fun x3 =>
      sel ((!x3)) (
       kx (lright.L0.ex0 ()).1 (lright.L0.ex0 ()).2) (
       sel ((ine (nth (.pair (.slice (.int .u64)) (.pair (.int .i64) (.pair (.int .i64) (.pair (.int .u64) .unit)))) t7 (Int.toNat t9)).2.2.2.1 (0 : Int))) (
        obind (lbad.call (nth (.pair (.slice (.int .u64)) (.pair (.int .i64) (.pair (.int .i64) (.pair (.int .u64) .unit)))) t7 (Int.toNat t9)).2.2.2.1) fun x4 =>
        sel (x4) (
         kx (lright.L0.ex0 ()).1 (lright.L0.ex0 ()).2) (
         kn (lright.L0.st (l_2, t7, t8, (iadd .i64 t9 (1 : Int)))))) (
        kn (lright.L0.st (l_2, t7, t8, (iadd .i64 t9 (1 : Int)))))))))) none) (
   kx (lright.L0.ex1 l_2).1 (lright.L0.ex1 l_2).2) := by kernel_rfl
theorem lright.eq {R : Type} (l : ((List ((List Int) × (Int × (Int × (Int × Unit))))) × Unit)) (k : GRes → Option R) : arun Tryz.prog lright.G lright.an 0 Tryz.f13 (lright.st l).1 (lright.st l).2 k =
  obind (lright.L0.call (l, l.1, (((List.length l.1) : Nat) : Int), (0 : Int))) fun x5 =>
  sel (x5.isLeft) (
   obind (x5.getLeft?) fun a6 =>
   k (lright.out false)) (
   obind (x5.getRight?) fun b7 =>
   sel ((igt (((List.length b7.1) : Nat) : Int) (0 : Int))) (
    k (lright.out (ile (((List.length b7.1) : Nat) : Int) (4 : Int)))) (
    k (lright.out false))) := by kernel_rfl


theorem lright.L0.ok : ∀ d, lright.L0.Pre d → ∃ n, lrun Tryz.prog lright.G lright.an 0 Tryz.f13 0 n (lright.L0.st d) (fun e s => some (e, s)) = (lright.L0.out (lright.L0.add d (lright.L0.F d))).eval := by
  refine lright.L0.byRounds (fun (l, bs, n, i) => bs.length - i.toNat) ?_
  rintro ⟨l, bs, n, i⟩ ⟨hl, hb, rfl, k, hk, rfl⟩
  have hb : bs.length ≤ 1000000000 := hb
  have hk : k ≤ bs.length := hk
  by_cases h : k < bs.length
  · have hx : BrU bs[k] := hl _ (List.getElem_mem h)
    have n1 : nth (.pair (.slice (.int .u64)) (.pair (.int .i64) (.pair (.int .i64) (.pair (.int .u64) .unit)))) bs k = bs[k] := nth_lt (t := (.pair (.slice (.int .u64)) (.pair (.int .i64) (.pair (.int .i64) (.pair (.int .u64) .unit))))) h
    have hd : (bs.drop k).all brOk = (brOk bs[k] && (bs.drop (k + 1)).all brOk) := by rw [List.drop_eq_getElem_cons h, List.all_cons]
    have step : ∀ {R : Type} (kn : AS → Option R) (kx : Exit → AS → Option R), lround Tryz.prog lright.G lright.an 0 Tryz.f13 0 (lright.L0.st (l, bs, (bs.length : Int), (k : Int))) kn kx = sel (brOk bs[k]) (kn (lright.L0.st (l, bs, (bs.length : Int), ((k + 1 : Nat) : Int)))) (kx (lright.L0.ex0 ()).1 (lright.L0.ex0 ()).2) := by
      intro R kn kx
      rw [lright.L0.step, ilt_true (by omega), inb_true (by omega) (by omega), Int.toNat_natCast, n1, N.aNL (by omega)]
      obtain ⟨⟨ks, af, dl, sc, u⟩, hbk⟩ : ∃ b, bs[k] = b := ⟨_, rfl⟩
      rw [hbk] at hx ⊢
      have h1 : KeysU ks := hx.1
      have h2 : U64 sc := hx.2
      simp only [sel_true, brOk]
      by_cases hk : ks.length ≤ 12
      · rw [igt_false (by omega), pcontains.run (d := ks) ⟨h1, by omega⟩, lheight.run (d := af) trivial, lheight.run (d := dl) trivial, lbad.run (d := sc) h2, dec_true hk]
        simp only [sel_false, obind_some, pcontains.add, pcontains.F, lheight.add, lheight.F, lbad.add, lbad.F, Bool.true_and]
        cases ks.all isP
        · rfl
        cases htOk af
        · rfl
        cases htOk dl
        · rfl
        by_cases hs : sc = 0
        · rw [ine_false hs, dec_true hs]; rfl
        · rw [ine_true hs, dec_false hs]
          cases isP sc <;> rfl
      · rw [igt_true (by omega), dec_false hk]; rfl
    cases hp : brOk bs[k]
    · right
      refine ⟨lright.L0.ex0 (), ?_, fun kn kx => ?_⟩
      · simp only [lright.L0.add, lright.L0.F, Int.toNat_natCast, hd, hp, Bool.false_and, Bool.false_eq_true, if_false]
        rfl
      · rw [step, hp, sel_false]
    · left
      refine ⟨(l, bs, bs.length, ((k + 1 : Nat) : Int)), ⟨hl, hb, rfl, k + 1, by omega, rfl⟩, by simp only [Int.toNat_natCast]; omega, ?_, fun kn kx => ?_⟩
      · simp only [lright.L0.add, lright.L0.F, Int.toNat_natCast, hd, hp, Bool.true_and]
      · rw [step, hp, sel_true]
  · right
    obtain rfl : k = bs.length := by omega
    refine ⟨lright.L0.ex1 l, ?_, fun kn kx => ?_⟩
    · simp only [lright.L0.add, lright.L0.F, Int.toNat_natCast, List.drop_length]
      rfl
    · rw [lright.L0.step]
      simp (disch := omega) only [↓N.lt, ↓N.le, ↓N.gt, ↓N.ge, ↓N.eq, ↓N.ne, ↓N.ib, ↓N.ic, ↓N.nn, ↓N.nz, ↓N.dc, ↓N.rm, ↓N.an, ↓N.or, ↓N.no, ↓if_pos, ↓if_neg, ↓sel_true, ↓sel_false, ↓obind_some, if_pos, if_neg, obind_some, N.aNN, N.aNL, N.aLN, N.sNN, N.sNL, N.sLN, N.mNN, N.mNL, N.mLN, N.qNN, N.qNL, N.rNN, N.rNL, N.cN, N.cL, N.tL, Int.toNat_natCast, if_true, if_false, and_self, true_and, and_true]
theorem lright.ok : ∀ d, lright.Pre d → arun Tryz.prog lright.G lright.an 0 Tryz.f13 (lright.st d).1 (lright.st d).2 some = some (lright.out (lright.add d (lright.F d))) := by
  rintro l ⟨hl, hb⟩
  have hb : l.1.length ≤ 1000000000 := hb
  rw [lright.eq, lright.L0.run (d := (l, l.1, l.1.length, 0)) ⟨hl, hb, rfl, 0, by omega, rfl⟩]
  simp only [obind_some, lright.L0.add, lright.L0.F, Int.toNat_zero, List.drop_zero, lright.add, lright.F, lkOk]
  cases l.1.all brOk
  · rfl
  · simp only [if_true, Bool.true_and]
    show sel (igt _ _) _ _ = _
    by_cases h0 : 0 < l.1.length
    · rw [igt_true (by omega)]
      by_cases h4 : l.1.length ≤ 4
      · rw [ile_true (by omega), dec_true ⟨h0, h4⟩]; rfl
      · rw [ile_false (by omega), dec_false (fun x => h4 x.2)]; rfl
    · rw [igt_false (by omega), dec_false (fun x => h0 x.1)]; rfl

theorem lright.inj : ∀ d d', lright.st d = lright.st d' → d = d' := fun l l' hEq => by
  have e0 : l = l' := d_inj (t := (.pair (.slice (.pair (.slice (.int .u64)) (.pair (.int .i64) (.pair (.int .i64) (.pair (.int .u64) .unit))))) .unit)) (congrArg (fun s : List AVal × List Ent => (s.1.getD 0 .undef)) hEq)
  rw [e0]
noncomputable def lright.E : Entry := Entry.of [some (.pair (.slice (.pair (.slice (.int .u64)) (.pair (.int .i64) (.pair (.int .i64) (.pair (.int .u64) .unit))))) .unit)] lright.st lright.Pre (fun d => lright.add d (lright.F d)) lright.out
noncomputable def lright.call : lright.D → Option lright.X := fun d => lright.E.run (lright.st d).1 (lright.st d).2
theorem lright.run {d : lright.D} (h : lright.Pre d) : lright.call d = some (lright.add d (lright.F d)) := Entry.of_run lright.inj h
theorem lright.does : Does Tryz.prog 13 lright.E := Does.of (by kernel_rfl) (show Sound _ lright.G from Sound.cons pcontains.does (Sound.cons lheight.does (Sound.cons lbad.does (Sound.nil _)))) (by kernel_rfl) (by kernel_rfl) (by kernel_rfl) (LOk.fn 1 (by kernel_rfl) (And.intro (LDo.of (by kernel_rfl) lright.L0.ok) trivial)) lright.ok


/-- Do the signatures fit the keys? -/
def verAll (m : List Int) : List Int → List Sg → Bool
  | [], _ => true
  | p :: ps, ss => checks p m 1 (ss.headD (0, 0, ())) && verAll m ps ss.tail
def openL (l : Lk) (w : Wit) (m : List Int) (height age : Int) : Int :=
  if lkOk l = false ∨ w.1 < 0 ∨ w.1 ≥ l.1.length then 1
  else
    let b := nth (.pair (.slice (.int .u64)) (.pair (.int .i64) (.pair (.int .i64) (.pair (.int .u64) .unit)))) l.1 w.1.toNat
    if height < b.2.1 ∨ age < b.2.2.1 then 11
    else if b.2.2.2.1 ≠ 0 ∧ baseP w.2.2.1 ≠ b.2.2.2.1 then 23
    else if w.2.1.length ≠ b.1.length then 7
    else if verAll m b.1 w.2.1 then 0 else 7
theorem verAll_at (m : List Int) (ks : List Int) (ss : List Sg) (h : ss.length = ks.length) (k : Nat) (hk : k < ks.length) : verAll m (ks.drop k) (ss.drop k) = (checks ks[k] m 1 (ss[k]'(by omega)) && verAll m (ks.drop (k + 1)) (ss.drop (k + 1))) := by
  rw [List.drop_eq_getElem_cons hk, List.drop_eq_getElem_cons (by omega : k < ss.length)]
  rfl
def WitU (w : Wit) : Prop := (∀ s ∈ w.2.1, SgU s) ∧ U64 w.2.2.1

/-! ### corsned/lock.Open -/
abbrev lopen.L0.D := (Int × ((List (Int × (Int × Unit))) × (Int × Unit))) × (List Int) × (List Int) × Int × Int
def lopen.L0.st : lopen.L0.D → AS := fun (wv_2, m_2, t68, t69, t70) => ⟨(undN 6 ([.rptr (.pair (.int .i64) (.pair (.slice (.pair (.int .u64) (.pair (.int .u64) .unit))) (.pair (.int .u64) .unit))) wv_2, .rptr (.arr 32 (.int .u8)) m_2] ++ undN 60 ([.d (.slice (.int .u64)) t68, .d (.int .i64) t69, .d (.int .i64) t70] ++ undN 14 []))), [], (List.replicate 85 [])⟩
abbrev lopen.L0.Y0 := Unit
abbrev lopen.L0.X0 := Unit
def lopen.L0.ex0 : lopen.L0.X0 → Exit × AS := fun x => (.ret, ⟨(undN 10 ([.d (.int .i64) (7 : Int)] ++ undN 74 [])), [], (List.replicate 85 [])⟩)
abbrev lopen.L0.Y1 := Unit
abbrev lopen.L0.X1 := Unit
def lopen.L0.ex1 : lopen.L0.X1 → Exit × AS := fun x => (.exit 1, ⟨(undN 85 []), [], (List.replicate 85 [])⟩)
abbrev lopen.L0.X := (lopen.L0.X0) ⊕ (lopen.L0.X1)
abbrev lopen.L0.Y := (lopen.L0.Y0) ⊕ (lopen.L0.Y1)
def lopen.L0.out : lopen.L0.X → Out (Exit × AS) := fun x => .br x.isLeft (.get x.getLeft? fun a => .ok (lopen.L0.ex0 a)) (.get x.getRight? fun b => .ok (lopen.L0.ex1 b))
def lopen.L0.add : lopen.L0.D → lopen.L0.Y → lopen.L0.X := fun (wv_2, m_2, t68, t69, t70) y => match y with | .inl y => .inl y | .inr z => .inr (z)
abbrev lopen.D := ((List ((List Int) × (Int × (Int × (Int × Unit))))) × Unit) × (Int × ((List (Int × (Int × Unit))) × (Int × Unit))) × (List Int) × Int × Int
def lopen.st : lopen.D → List AVal × List Ent := fun (l, wv, m, height, age) => ([.d (.pair (.slice (.pair (.slice (.int .u64)) (.pair (.int .i64) (.pair (.int .i64) (.pair (.int .u64) .unit))))) .unit) l, .d (.pair (.int .i64) (.pair (.slice (.pair (.int .u64) (.pair (.int .u64) .unit))) (.pair (.int .u64) .unit))) wv, .d (.arr 32 (.int .u8)) m, .d (.int .i64) height, .d (.int .i64) age], [])
abbrev lopen.Y := Int
abbrev lopen.X := Int
def lopen.out : lopen.X → GRes := fun x => ⟨.d (.int .i64) x, [], []⟩
def lopen.add : lopen.D → lopen.Y → lopen.X := fun (l, wv, m, height, age) y => y


def lopen.L0.Pre : lopen.L0.D → Prop := fun (w, m, ks, n, i) => WitU w ∧ Sm m ∧ KeysU ks ∧ ks.length ≤ 1000000000 ∧ w.2.1.length = ks.length ∧ n = ks.length ∧ ∃ k : Nat, k ≤ ks.length ∧ i = k
def lopen.L0.F : lopen.L0.D → lopen.L0.Y := fun (w, m, ks, n, i) => if verAll m (ks.drop i.toNat) (w.2.1.drop i.toNat) then .inr () else .inl ()
def lopen.Pre : lopen.D → Prop := fun (l, w, m, h, a) => LkU l ∧ l.1.length ≤ 1000000000 ∧ WitU w ∧ Sm m
def lopen.F : lopen.D → lopen.Y := fun (l, w, m, h, a) => openL l w m h a

noncomputable def lopen.G : Gam := gcons 13 anyArgs lright.E (gcons 44 anyArgs pbase.E (gcons 43 anyArgs sverify.E (gnil)))
noncomputable def lopen.L0.E : LEntry := LEntry.of lopen.L0.st lopen.L0.Pre (fun d => lopen.L0.add d (lopen.L0.F d)) lopen.L0.out
noncomputable def lopen.L0.call : lopen.L0.D → Option lopen.L0.X := fun d => lopen.L0.E.run (lopen.L0.st d)
noncomputable def lopen.an : Ann := {
  objs := [],
  loops := fun r => bif Nat.beq r 11 then { keep := [6, 7, 68, 69, 70], sites := [], frz := [], data := [], owns := [] } else { keep := [], sites := [], frz := [], data := [], owns := [] },
  outs := fun r b => bif Nat.beq r 11 then (bif b then { keep := [10], sites := [], frz := [], data := [], owns := [] } else { keep := [], sites := [], frz := [], data := [], owns := [] }) else { keep := [], sites := [], frz := [], data := [], owns := [] },
  sums := fun r => bif Nat.beq r 11 then some lopen.L0.E else none,
  owns := [],
  trim := [],
  res := [] }
theorem lopen.L0.inj : ∀ d d', lopen.L0.st d = lopen.L0.st d' → d = d' := fun (wv_2, m_2, t68, t69, t70) (wv_2', m_2', t68', t69', t70') hEq => by
  have e0 : wv_2 = wv_2' := rptr_inj (t := (.pair (.int .i64) (.pair (.slice (.pair (.int .u64) (.pair (.int .u64) .unit))) (.pair (.int .u64) .unit)))) (congrArg (fun s : AS => (s.slot 6)) hEq)
  have e1 : m_2 = m_2' := rptr_inj (t := (.arr 32 (.int .u8))) (congrArg (fun s : AS => (s.slot 7)) hEq)
  have e2 : t68 = t68' := d_inj (t := (.slice (.int .u64))) (congrArg (fun s : AS => (s.slot 68)) hEq)
  have e3 : t69 = t69' := d_inj (t := (.int .i64)) (congrArg (fun s : AS => (s.slot 69)) hEq)
  have e4 : t70 = t70' := d_inj (t := (.int .i64)) (congrArg (fun s : AS => (s.slot 70)) hEq)
  rw [e0, e1, e2, e3, e4]
theorem lopen.L0.run {d : lopen.L0.D} (h : lopen.L0.Pre d) : lopen.L0.call d = some (lopen.L0.add d (lopen.L0.F d)) := LEntry.of_run lopen.L0.inj h
theorem lopen.L0.byRounds (μ : lopen.L0.D → Nat) (h : ∀ d, lopen.L0.Pre d → (∃ d', lopen.L0.Pre d' ∧ μ d' < μ d ∧ lopen.L0.add d' (lopen.L0.F d') = lopen.L0.add d (lopen.L0.F d) ∧ ∀ {R : Type} (kn : AS → Option R) (kx : Exit → AS → Option R), lround Tryz.prog lopen.G lopen.an 0 Tryz.f47 0 (lopen.L0.st d) kn kx = kn (lopen.L0.st d')) ∨ (∃ r, (lopen.L0.out (lopen.L0.add d (lopen.L0.F d))).eval = some r ∧ ∀ {R : Type} (kn : AS → Option R) (kx : Exit → AS → Option R), lround Tryz.prog lopen.G lopen.an 0 Tryz.f47 0 (lopen.L0.st d) kn kx = kx r.1 r.2)) : ∀ d, lopen.L0.Pre d → ∃ n, lrun Tryz.prog lopen.G lopen.an 0 Tryz.f47 0 n (lopen.L0.st d) (fun e s => some (e, s)) = (lopen.L0.out (lopen.L0.add d (lopen.L0.F d))).eval := lrun_of (F := fun d => lopen.L0.add d (lopen.L0.F d)) (out := lopen.L0.out) μ h
theorem lopen.L0.step {R : Type} (wv_2 : (Int × ((List (Int × (Int × Unit))) × (Int × Unit)))) (m_2 : (List Int)) (t68 : (List Int)) (t69 : Int) (t70 : Int) (kn : AS → Option R) (kx : Exit → AS → Option R) : lround Tryz.prog lopen.G lopen.an 0 Tryz.f47 0 (lopen.L0.st (wv_2, m_2, t68, t69, t70)) kn kx =
  sel ((ilt t70 t69)) (
   sel (inb t70 (((List.length t68) : Nat) : Int)) (
   sel (inb t70 (((List.length wv_2.2.1) : Nat) : Int)) (
   obind (sverify.call ((nth (.int .u64) t68 (Int.toNat t70)), m_2, (nth (.pair (.int .u64) (.pair (.int .u64) .unit)) wv_2.2.1 (Int.toNat t70)))) fun x1 =>
   sel ((!x1)) (
    kx (lopen.L0.ex0 ()).1 (lopen.L0.ex0 ()).2) (
    kn (lopen.L0.st (wv_2, m_2, t68, t69, (iadd .i64 t70 (1 : Int)))))) none) none) (
   kx (lopen.L0.ex1 ()).1 (lopen.L0.ex1 ()).2) := by kernel_rfl
theorem lopen.eq {R : Type} (l : ((List ((List Int) × (Int × (Int × (Int × Unit))))) × Unit)) (wv : (Int × ((List (Int × (Int × Unit))) × (Int × Unit)))) (m : (List Int)) (height : Int) (age : Int) (k : GRes → Option R) : arun Tryz.prog lopen.G lopen.an 0 Tryz.f47 (lopen.st (l, wv, m, height, age)).1 (lopen.st (l, wv, m, height, age)).2 k =
  obind (lright.call l) fun x1 =>
  sel ((!x1)) (
   k (lopen.out (1 : Int))) (
   sel ((ilt wv.1 (0 : Int))) (
    k (lopen.out (1 : Int))) (
    sel ((ige wv.1 (((List.length l.1) : Nat) : Int))) (
     k (lopen.out (1 : Int))) (
     sel (inb wv.1 (((List.length l.1) : Nat) : Int)) (
     sel ((ilt height (nth (.pair (.slice (.int .u64)) (.pair (.int .i64) (.pair (.int .i64) (.pair (.int .u64) .unit)))) l.1 (Int.toNat wv.1)).2.1)) (
      k (lopen.out (11 : Int))) (
      sel ((ilt age (nth (.pair (.slice (.int .u64)) (.pair (.int .i64) (.pair (.int .i64) (.pair (.int .u64) .unit)))) l.1 (Int.toNat wv.1)).2.2.1)) (
       k (lopen.out (11 : Int))) (
       sel ((ine (nth (.pair (.slice (.int .u64)) (.pair (.int .i64) (.pair (.int .i64) (.pair (.int .u64) .unit)))) l.1 (Int.toNat wv.1)).2.2.2.1 (0 : Int))) (
        obind (pbase.call wv.2.2.1) fun x2 =>
        sel ((ine x2 (nth (.pair (.slice (.int .u64)) (.pair (.int .i64) (.pair (.int .i64) (.pair (.int .u64) .unit)))) l.1 (Int.toNat wv.1)).2.2.2.1)) (
         k (lopen.out (23 : Int))) (
         sel ((ine (((List.length wv.2.1) : Nat) : Int) (((List.length (nth (.pair (.slice (.int .u64)) (.pair (.int .i64) (.pair (.int .i64) (.pair (.int .u64) .unit)))) l.1 (Int.toNat wv.1)).1) : Nat) : Int))) (
          k (lopen.out (7 : Int))) (
          obind (lopen.L0.call (wv, m, (nth (.pair (.slice (.int .u64)) (.pair (.int .i64) (.pair (.int .i64) (.pair (.int .u64) .unit)))) l.1 (Int.toNat wv.1)).1, (((List.length (nth (.pair (.slice (.int .u64)) (.pair (.int .i64) (.pair (.int .i64) (.pair (.int .u64) .unit)))) l.1 (Int.toNat wv.1)).1) : Nat) : Int), (0 : Int))) fun x4 =>
          sel (x4.isLeft) (
           obind (x4.getLeft?) fun a5 =>
           k (lopen.out (7 : Int))) (
           obind (x4.getRight?) fun b6 =>
           k (lopen.out (0 : Int)))))) (
        sel ((ine (((List.length wv.2.1) : Nat) : Int) (((List.length (nth (.pair (.slice (.int .u64)) (.pair (.int .i64) (.pair (.int .i64) (.pair (.int .u64) .unit)))) l.1 (Int.toNat wv.1)).1) : Nat) : Int))) (
         k (lopen.out (7 : Int))) (
         obind (lopen.L0.call (wv, m, (nth (.pair (.slice (.int .u64)) (.pair (.int .i64) (.pair (.int .i64) (.pair (.int .u64) .unit)))) l.1 (Int.toNat wv.1)).1, (((List.length (nth (.pair (.slice (.int .u64)) (.pair (.int .i64) (.pair (.int .i64) (.pair (.int .u64) .unit)))) l.1 (Int.toNat wv.1)).1) : Nat) : Int), (0 : Int))) fun x7 =>
         sel (x7.isLeft) (
          obind (x7.getLeft?) fun a8 =>
          k (lopen.out (7 : Int))) (
          obind (x7.getRight?) fun b9 =>
          k (lopen.out (0 : Int)))))))) none))) := by kernel_rfl


theorem lopen.L0.ok : ∀ d, lopen.L0.Pre d → ∃ n, lrun Tryz.prog lopen.G lopen.an 0 Tryz.f47 0 n (lopen.L0.st d) (fun e s => some (e, s)) = (lopen.L0.out (lopen.L0.add d (lopen.L0.F d))).eval := by
  refine lopen.L0.byRounds (fun (w, m, ks, n, i) => ks.length - i.toNat) ?_
  rintro ⟨w, m, ks, n, i⟩ ⟨hw, hm, hl, hb, hs, rfl, k, hk, rfl⟩
  have hb : ks.length ≤ 1000000000 := hb
  have hk : k ≤ ks.length := hk
  have hs : w.2.1.length = ks.length := hs
  by_cases h : k < ks.length
  · have hx := hl _ (List.getElem_mem h)
    have hy := hw.1 _ (List.getElem_mem (by omega : k < w.2.1.length))
    have n1 : nth (.int .u64) ks k = ks[k] := nth_lt (t := .int .u64) h
    have n2 : nth (.pair (.int .u64) (.pair (.int .u64) .unit)) w.2.1 k = w.2.1[k]'(by omega) := nth_lt (t := (.pair (.int .u64) (.pair (.int .u64) .unit))) (by omega)
    have hd := verAll_at m ks w.2.1 hs k h
    have step : ∀ {R : Type} (kn : AS → Option R) (kx : Exit → AS → Option R), lround Tryz.prog lopen.G lopen.an 0 Tryz.f47 0 (lopen.L0.st (w, m, ks, (ks.length : Int), (k : Int))) kn kx = sel (checks ks[k] m 1 (w.2.1[k]'(by omega))) (kn (lopen.L0.st (w, m, ks, (ks.length : Int), ((k + 1 : Nat) : Int)))) (kx (lopen.L0.ex0 ()).1 (lopen.L0.ex0 ()).2) := by
      intro R kn kx
      rw [lopen.L0.step, ilt_true (by omega), inb_true (by omega) (by omega), inb_true (by omega) (by omega), Int.toNat_natCast, n1, n2, N.aNL (by omega), sverify.run (d := (ks[k], m, w.2.1[k]'(by omega))) ⟨hx, hm, hy⟩]
      simp only [sel_true, obind_some, sverify.add, sverify.F]
      cases checks ks[k] m 1 (w.2.1[k]'(by omega)) <;> rfl
    cases hp : checks ks[k] m 1 (w.2.1[k]'(by omega))
    · right
      refine ⟨lopen.L0.ex0 (), ?_, fun kn kx => ?_⟩
      · simp only [lopen.L0.add, lopen.L0.F, Int.toNat_natCast, hd, hp, Bool.false_and, Bool.false_eq_true, if_false]
        rfl
      · rw [step, hp, sel_false]
    · left
      refine ⟨(w, m, ks, ks.length, ((k + 1 : Nat) : Int)), ⟨hw, hm, hl, hb, hs, rfl, k + 1, by omega, rfl⟩, by simp only [Int.toNat_natCast]; omega, ?_, fun kn kx => ?_⟩
      · simp only [lopen.L0.add, lopen.L0.F, Int.toNat_natCast, hd, hp, Bool.true_and]
      · rw [step, hp, sel_true]
  · right
    obtain rfl : k = ks.length := by omega
    refine ⟨lopen.L0.ex1 (), ?_, fun kn kx => ?_⟩
    · simp only [lopen.L0.add, lopen.L0.F, Int.toNat_natCast, List.drop_length]
      rfl
    · rw [lopen.L0.step]
      simp (disch := omega) only [↓N.lt, ↓N.le, ↓N.gt, ↓N.ge, ↓N.eq, ↓N.ne, ↓N.ib, ↓N.ic, ↓N.nn, ↓N.nz, ↓N.dc, ↓N.rm, ↓N.an, ↓N.or, ↓N.no, ↓if_pos, ↓if_neg, ↓sel_true, ↓sel_false, ↓obind_some, if_pos, if_neg, obind_some, N.aNN, N.aNL, N.aLN, N.sNN, N.sNL, N.sLN, N.mNN, N.mNL, N.mLN, N.qNN, N.qNL, N.rNN, N.rNL, N.cN, N.cL, N.tL, Int.toNat_natCast, if_true, if_false, and_self, true_and, and_true]
theorem lkOk_keys {l : Lk} (h : lkOk l = true) {b : Brn} (hb : b ∈ l.1) : b.1.length ≤ 12 := by
  unfold lkOk at h
  rw [Bool.and_eq_true, List.all_eq_true] at h
  have := h.1 b hb
  unfold brOk at this
  rw [Bool.and_eq_true] at this
  simpa using this.1
theorem lopen.ok : ∀ d, lopen.Pre d → arun Tryz.prog lopen.G lopen.an 0 Tryz.f47 (lopen.st d).1 (lopen.st d).2 some = some (lopen.out (lopen.add d (lopen.F d))) := by
  rintro ⟨l, w, m, h, a⟩ ⟨hl, hb, hw, hm⟩
  have hl : LkU l := hl
  have hb : l.1.length ≤ 1000000000 := hb
  have hw : WitU w := hw
  have hm : Sm m := hm
  rw [lopen.eq, lright.run (d := l) ⟨hl, hb⟩]
  simp only [obind_some, lright.add, lright.F, lopen.add, lopen.F, openL]
  cases hok : lkOk l
  · rw [if_pos (Or.inl rfl)]; rfl
  by_cases h0 : w.1 < 0
  · rw [ilt_true h0, if_pos (Or.inr (Or.inl h0))]; rfl
  by_cases h1 : w.1 ≥ l.1.length
  · rw [ilt_false h0, ige_true h1, if_pos (Or.inr (Or.inr h1))]; rfl
  rw [ilt_false h0, ige_false h1, inb_true (by omega) (by omega), if_neg (by simp [h0]; omega)]
  have hn : w.1.toNat < l.1.length := by omega
  have n1 : nth (.pair (.slice (.int .u64)) (.pair (.int .i64) (.pair (.int .i64) (.pair (.int .u64) .unit)))) l.1 w.1.toNat = l.1[w.1.toNat] := nth_lt (t := (.pair (.slice (.int .u64)) (.pair (.int .i64) (.pair (.int .i64) (.pair (.int .u64) .unit))))) hn
  rw [n1]
  have hx : BrU l.1[w.1.toNat] := hl _ (List.getElem_mem hn)
  have hkl := lkOk_keys hok (List.getElem_mem hn)
  obtain ⟨⟨ks, af, dl, sc, u⟩, hbk⟩ : ∃ b, l.1[w.1.toNat] = b := ⟨_, rfl⟩
  rw [hbk] at hx hkl ⊢
  have hks : KeysU ks := hx.1
  have hkl : ks.length ≤ 12 := hkl
  simp only [Bool.not_true, sel_false, sel_true]
  by_cases e1 : h < af
  · rw [ilt_true e1, if_pos (Or.inl e1)]; rfl
  by_cases e2 : a < dl
  · rw [ilt_false e1, ilt_true e2, if_pos (Or.inr e2)]; rfl
  rw [ilt_false e1, ilt_false e2, if_neg (by simp [e1, e2]), pbase.run (d := w.2.2.1) hw.2]
  simp only [sel_false, obind_some, pbase.add, pbase.F]
  have last : sel (ine ((w.2.1.length : Nat) : Int) ((ks.length : Nat) : Int)) (some (lopen.out (7 : Int))) (
          obind (lopen.L0.call (w, m, ks, ((ks.length : Nat) : Int), (0 : Int))) fun x4 =>
          sel (x4.isLeft) (obind (x4.getLeft?) fun a5 => some (lopen.out (7 : Int))) (obind (x4.getRight?) fun b6 => some (lopen.out (0 : Int)))) = some (lopen.out (if w.2.1.length ≠ ks.length then 7 else if verAll m ks w.2.1 then 0 else 7)) := by
    by_cases e3 : w.2.1.length = ks.length
    · rw [ine_false (by omega), if_neg (by simp [e3]), sel_false, lopen.L0.run (d := (w, m, ks, ks.length, 0)) ⟨hw, hm, hks, by show ks.length ≤ 1000000000; omega, e3, rfl, 0, by omega, rfl⟩]
      simp only [obind_some, lopen.L0.add, lopen.L0.F, Int.toNat_zero, List.drop_zero]
      cases verAll m ks w.2.1 <;> rfl
    · rw [ine_true (by omega), if_pos e3]; rfl
  by_cases e4 : sc = 0
  · rw [ine_false e4, if_neg (by simp [e4]), sel_false]
    exact last
  · rw [ine_true e4, sel_true]
    by_cases e5 : baseP w.2.2.1 = sc
    · rw [ine_false e5, if_neg (by simp [e5]), sel_false]
      exact last
    · rw [ine_true e5, if_pos ⟨e4, e5⟩]; rfl

theorem lopen.inj : ∀ d d', lopen.st d = lopen.st d' → d = d' := fun (l, wv, m, height, age) (l', wv', m', height', age') hEq => by
  have e0 : l = l' := d_inj (t := (.pair (.slice (.pair (.slice (.int .u64)) (.pair (.int .i64) (.pair (.int .i64) (.pair (.int .u64) .unit))))) .unit)) (congrArg (fun s : List AVal × List Ent => (s.1.getD 0 .undef)) hEq)
  have e1 : wv = wv' := d_inj (t := (.pair (.int .i64) (.pair (.slice (.pair (.int .u64) (.pair (.int .u64) .unit))) (.pair (.int .u64) .unit)))) (congrArg (fun s : List AVal × List Ent => (s.1.getD 1 .undef)) hEq)
  have e2 : m = m' := d_inj (t := (.arr 32 (.int .u8))) (congrArg (fun s : List AVal × List Ent => (s.1.getD 2 .undef)) hEq)
  have e3 : height = height' := d_inj (t := (.int .i64)) (congrArg (fun s : List AVal × List Ent => (s.1.getD 3 .undef)) hEq)
  have e4 : age = age' := d_inj (t := (.int .i64)) (congrArg (fun s : List AVal × List Ent => (s.1.getD 4 .undef)) hEq)
  rw [e0, e1, e2, e3, e4]
noncomputable def lopen.E : Entry := Entry.of [some (.pair (.slice (.pair (.slice (.int .u64)) (.pair (.int .i64) (.pair (.int .i64) (.pair (.int .u64) .unit))))) .unit), some (.pair (.int .i64) (.pair (.slice (.pair (.int .u64) (.pair (.int .u64) .unit))) (.pair (.int .u64) .unit))), some (.arr 32 (.int .u8)), some (.int .i64), some (.int .i64)] lopen.st lopen.Pre (fun d => lopen.add d (lopen.F d)) lopen.out
noncomputable def lopen.call : lopen.D → Option lopen.X := fun d => lopen.E.run (lopen.st d).1 (lopen.st d).2
theorem lopen.run {d : lopen.D} (h : lopen.Pre d) : lopen.call d = some (lopen.add d (lopen.F d)) := Entry.of_run lopen.inj h
theorem lopen.does : Does Tryz.prog 47 lopen.E := Does.of (by kernel_rfl) (show Sound _ lopen.G from Sound.cons lright.does (Sound.cons pbase.does (Sound.cons sverify.does (Sound.nil _)))) (by kernel_rfl) (by kernel_rfl) (by kernel_rfl) (LOk.fn 1 (by kernel_rfl) (And.intro (LDo.of (by kernel_rfl) lopen.L0.ok) trivial)) lopen.ok

end Go.Ab
namespace Go.Ab
open Go.Proofs
set_option maxRecDepth 100000
set_option linter.unusedVariables false
set_option linter.unusedSimpArgs false

/-! ### slices.Clone[[]corsned/api.Point,corsned/api.Point] -/
abbrev pclone.D := (List Int)
def pclone.st : pclone.D → List AVal × List Ent := fun sv => ([.d (.slice (.int .u64)) sv], [])
abbrev pclone.Y := (List Int)
abbrev pclone.X := (List Int)
def pclone.out : pclone.X → GRes := fun x => ⟨.d (.slice (.int .u64)) x, [], []⟩
def pclone.add : pclone.D → pclone.Y → pclone.X := fun sv y => y


def pclone.Pre : pclone.D → Prop := fun l => l.length ≤ 1000000
def pclone.F : pclone.D → pclone.Y := fun l => l

noncomputable def pclone.G : Gam := gnil
noncomputable def pclone.an : Ann := {
  objs := [5],
  loops := fun r => { keep := [], sites := [], frz := [], data := [], owns := [] },
  outs := fun r b => { keep := [], sites := [], frz := [], data := [], owns := [] },
  sums := fun r => none,
  owns := [],
  trim := [],
  res := [some (.slice (.int .u64))] }
theorem pclone.eq {R : Type} (sv : (List Int)) (k : GRes → Option R) : arun Tryz.prog pclone.G pclone.an 0 Tryz.f135 (pclone.st sv).1 (pclone.st sv).2 k =
  sel (decide (0 < (List.length sv))) (
   sel (roomA (0 + (List.length sv)) 8) (
   sel (decide (0 = 0 ∧ (0 + (0 + (List.length sv))) ≤ (List.length ((List.take 0 (List.replicate 0 (0 : Int))) ++ sv)))) (
   k (pclone.out (cut ((List.take 0 (List.replicate 0 (0 : Int))) ++ sv) 0 (0 + (List.length sv))))) none) none) (
   nd (
    k (pclone.out ([] : List Int))) (
    sel (roomA (0 + (List.length sv)) 8) (
    sel (decide (0 = 0 ∧ (0 + (0 + (List.length sv))) ≤ (List.length ((List.take 0 (List.replicate 0 (0 : Int))) ++ sv)))) (
    k (pclone.out (cut ((List.take 0 (List.replicate 0 (0 : Int))) ++ sv) 0 (0 + (List.length sv))))) none) none)) := by kernel_rfl


theorem pclone.ok : ∀ d, pclone.Pre d → arun Tryz.prog pclone.G pclone.an 0 Tryz.f135 (pclone.st d).1 (pclone.st d).2 some = some (pclone.out (pclone.add d (pclone.F d))) := by
  intro l hl
  have hl : l.length ≤ 1000000 := hl
  have hr : roomA l.length 8 = true := room_true (by omega) (by omega)
  have e0 : (List.take 0 (List.replicate 0 0) : List Int) = [] := rfl
  rw [pclone.eq]
  simp only [Nat.zero_add, hr, sel_true, e0, List.nil_append, Nat.le_refl, and_self, decide_true, cut_len, pclone.add, pclone.F]
  by_cases h : 0 < l.length
  · simp only [dec_true h, sel_true]
  · have : l = [] := List.eq_nil_of_length_eq_zero (by omega)
    subst this
    simp only [List.length_nil, nd_same, dec_false (Nat.lt_irrefl 0), sel_false]

theorem pclone.inj : ∀ d d', pclone.st d = pclone.st d' → d = d' := fun sv sv' hEq => by
  have e0 : sv = sv' := d_inj (t := (.slice (.int .u64))) (congrArg (fun s : List AVal × List Ent => (s.1.getD 0 .undef)) hEq)
  rw [e0]
noncomputable def pclone.E : Entry := Entry.of [some (.slice (.int .u64))] pclone.st pclone.Pre (fun d => pclone.add d (pclone.F d)) pclone.out
noncomputable def pclone.call : pclone.D → Option pclone.X := fun d => pclone.E.run (pclone.st d).1 (pclone.st d).2
theorem pclone.run {d : pclone.D} (h : pclone.Pre d) : pclone.call d = some (pclone.add d (pclone.F d)) := Entry.of_run pclone.inj h
theorem pclone.does : Does Tryz.prog 135 pclone.E := Does.of (by kernel_rfl) (show Sound _ pclone.G from Sound.nil _) (by kernel_rfl) (by kernel_rfl) (by kernel_rfl) (LOk.fn 0 (by kernel_rfl) trivial) pclone.ok


def allL (l : List Int) : Lk := ([(l, 0, 0, 0, ())], ())
def lateL (own rev delay : Int) : Lk := ([([rev], 0, 0, 0, ()), ([own], 0, delay, 0, ())], ())
def anchorL (own : Int) : Lk := ([([own], 0, 0, 0, ()), ([], 0, 16, 0, ())], ())

/-! ### corsned/lock.All -/
abbrev lall.D := (List Int)
def lall.st : lall.D → List AVal × List Ent := fun l => ([.d (.slice (.int .u64)) l], [])
abbrev lall.Y := ((List ((List Int) × (Int × (Int × (Int × Unit))))) × Unit)
abbrev lall.X := ((List ((List Int) × (Int × (Int × (Int × Unit))))) × Unit)
def lall.out : lall.X → GRes := fun x => ⟨.d (.pair (.slice (.pair (.slice (.int .u64)) (.pair (.int .i64) (.pair (.int .i64) (.pair (.int .u64) .unit))))) .unit) x, [], []⟩
def lall.add : lall.D → lall.Y → lall.X := fun l y => y


def lall.Pre : lall.D → Prop := fun l => l.length ≤ 1000000
def lall.F : lall.D → lall.Y := fun l => allL l

noncomputable def lall.G : Gam := gcons 135 anyArgs pclone.E (gnil)
noncomputable def lall.an : Ann := {
  objs := [],
  loops := fun r => { keep := [], sites := [], frz := [], data := [], owns := [] },
  outs := fun r b => { keep := [], sites := [], frz := [], data := [], owns := [] },
  sums := fun r => none,
  owns := [],
  trim := [],
  res := [] }
theorem lall.eq {R : Type} (l : (List Int)) (k : GRes → Option R) : arun Tryz.prog lall.G lall.an 0 Tryz.f107 (lall.st l).1 (lall.st l).2 k =
  obind (pclone.call l) fun x1 =>
  k (lall.out ([(x1, ((0 : Int), ((0 : Int), ((0 : Int), ()))))], ())) := by kernel_rfl


theorem lall.ok : ∀ d, lall.Pre d → arun Tryz.prog lall.G lall.an 0 Tryz.f107 (lall.st d).1 (lall.st d).2 some = some (lall.out (lall.add d (lall.F d))) := by
  intro l hl
  rw [lall.eq, pclone.run (d := l) hl]
  rfl

theorem lall.inj : ∀ d d', lall.st d = lall.st d' → d = d' := fun l l' hEq => by
  have e0 : l = l' := d_inj (t := (.slice (.int .u64))) (congrArg (fun s : List AVal × List Ent => (s.1.getD 0 .undef)) hEq)
  rw [e0]
noncomputable def lall.E : Entry := Entry.of [some (.slice (.int .u64))] lall.st lall.Pre (fun d => lall.add d (lall.F d)) lall.out
noncomputable def lall.call : lall.D → Option lall.X := fun d => lall.E.run (lall.st d).1 (lall.st d).2
theorem lall.run {d : lall.D} (h : lall.Pre d) : lall.call d = some (lall.add d (lall.F d)) := Entry.of_run lall.inj h
theorem lall.does : Does Tryz.prog 107 lall.E := Does.of (by kernel_rfl) (show Sound _ lall.G from Sound.cons pclone.does (Sound.nil _)) (by kernel_rfl) (by kernel_rfl) (by kernel_rfl) (LOk.fn 0 (by kernel_rfl) trivial) lall.ok

/-! ### corsned/lock.Key -/
abbrev lkey.D := Int
def lkey.st : lkey.D → List AVal × List Ent := fun p => ([.d (.int .u64) p], [])
abbrev lkey.Y := ((List ((List Int) × (Int × (Int × (Int × Unit))))) × Unit)
abbrev lkey.X := ((List ((List Int) × (Int × (Int × (Int × Unit))))) × Unit)
def lkey.out : lkey.X → GRes := fun x => ⟨.d (.pair (.slice (.pair (.slice (.int .u64)) (.pair (.int .i64) (.pair (.int .i64) (.pair (.int .u64) .unit))))) .unit) x, [], []⟩
def lkey.add : lkey.D → lkey.Y → lkey.X := fun p y => y


def lkey.Pre : lkey.D → Prop := fun _ => True
def lkey.F : lkey.D → lkey.Y := fun p => allL [p]

noncomputable def lkey.G : Gam := gcons 107 anyArgs lall.E (gnil)
noncomputable def lkey.an : Ann := {
  objs := [],
  loops := fun r => { keep := [], sites := [], frz := [], data := [], owns := [] },
  outs := fun r b => { keep := [], sites := [], frz := [], data := [], owns := [] },
  sums := fun r => none,
  owns := [],
  trim := [],
  res := [] }
theorem lkey.eq {R : Type} (p : Int) (k : GRes → Option R) : arun Tryz.prog lkey.G lkey.an 0 Tryz.f48 (lkey.st p).1 (lkey.st p).2 k =
  obind (lall.call [p]) fun x1 =>
  k (lkey.out x1) := by kernel_rfl


theorem lkey.ok : ∀ d, lkey.Pre d → arun Tryz.prog lkey.G lkey.an 0 Tryz.f48 (lkey.st d).1 (lkey.st d).2 some = some (lkey.out (lkey.add d (lkey.F d))) := by
  intro p _
  rw [lkey.eq, lall.run (d := [p]) (by show [p].length ≤ _; simp)]
  rfl

theorem lkey.inj : ∀ d d', lkey.st d = lkey.st d' → d = d' := fun p p' hEq => by
  have e0 : p = p' := d_inj (t := (.int .u64)) (congrArg (fun s : List AVal × List Ent => (s.1.getD 0 .undef)) hEq)
  rw [e0]
noncomputable def lkey.E : Entry := Entry.of [some (.int .u64)] lkey.st lkey.Pre (fun d => lkey.add d (lkey.F d)) lkey.out
noncomputable def lkey.call : lkey.D → Option lkey.X := fun d => lkey.E.run (lkey.st d).1 (lkey.st d).2
theorem lkey.run {d : lkey.D} (h : lkey.Pre d) : lkey.call d = some (lkey.add d (lkey.F d)) := Entry.of_run lkey.inj h
theorem lkey.does : Does Tryz.prog 48 lkey.E := Does.of (by kernel_rfl) (show Sound _ lkey.G from Sound.cons lall.does (Sound.nil _)) (by kernel_rfl) (by kernel_rfl) (by kernel_rfl) (LOk.fn 0 (by kernel_rfl) trivial) lkey.ok

/-! ### corsned/lock.Both -/
abbrev lboth.D := Int × Int
def lboth.st : lboth.D → List AVal × List Ent := fun (a, b) => ([.d (.int .u64) a, .d (.int .u64) b], [])
abbrev lboth.Y := ((List ((List Int) × (Int × (Int × (Int × Unit))))) × Unit)
abbrev lboth.X := ((List ((List Int) × (Int × (Int × (Int × Unit))))) × Unit)
def lboth.out : lboth.X → GRes := fun x => ⟨.d (.pair (.slice (.pair (.slice (.int .u64)) (.pair (.int .i64) (.pair (.int .i64) (.pair (.int .u64) .unit))))) .unit) x, [], []⟩
def lboth.add : lboth.D → lboth.Y → lboth.X := fun (a, b) y => y


def lboth.Pre : lboth.D → Prop := fun _ => True
def lboth.F : lboth.D → lboth.Y := fun (p, q) => allL [p, q]

noncomputable def lboth.G : Gam := gcons 107 anyArgs lall.E (gnil)
noncomputable def lboth.an : Ann := {
  objs := [],
  loops := fun r => { keep := [], sites := [], frz := [], data := [], owns := [] },
  outs := fun r b => { keep := [], sites := [], frz := [], data := [], owns := [] },
  sums := fun r => none,
  owns := [],
  trim := [],
  res := [] }
theorem lboth.eq {R : Type} (a : Int) (b : Int) (k : GRes → Option R) : arun Tryz.prog lboth.G lboth.an 0 Tryz.f49 (lboth.st (a, b)).1 (lboth.st (a, b)).2 k =
  obind (lall.call [a, b]) fun x1 =>
  k (lboth.out x1) := by kernel_rfl


theorem lboth.ok : ∀ d, lboth.Pre d → arun Tryz.prog lboth.G lboth.an 0 Tryz.f49 (lboth.st d).1 (lboth.st d).2 some = some (lboth.out (lboth.add d (lboth.F d))) := by
  rintro ⟨p, q⟩ _
  rw [lboth.eq, lall.run (d := [p, q]) (by show [p, q].length ≤ _; simp)]
  rfl

theorem lboth.inj : ∀ d d', lboth.st d = lboth.st d' → d = d' := fun (a, b) (a', b') hEq => by
  have e0 : a = a' := d_inj (t := (.int .u64)) (congrArg (fun s : List AVal × List Ent => (s.1.getD 0 .undef)) hEq)
  have e1 : b = b' := d_inj (t := (.int .u64)) (congrArg (fun s : List AVal × List Ent => (s.1.getD 1 .undef)) hEq)
  rw [e0, e1]
noncomputable def lboth.E : Entry := Entry.of [some (.int .u64), some (.int .u64)] lboth.st lboth.Pre (fun d => lboth.add d (lboth.F d)) lboth.out
noncomputable def lboth.call : lboth.D → Option lboth.X := fun d => lboth.E.run (lboth.st d).1 (lboth.st d).2
theorem lboth.run {d : lboth.D} (h : lboth.Pre d) : lboth.call d = some (lboth.add d (lboth.F d)) := Entry.of_run lboth.inj h
theorem lboth.does : Does Tryz.prog 49 lboth.E := Does.of (by kernel_rfl) (show Sound _ lboth.G from Sound.cons lall.does (Sound.nil _)) (by kernel_rfl) (by kernel_rfl) (by kernel_rfl) (LOk.fn 0 (by kernel_rfl) trivial) lboth.ok

/-! ### corsned/lock.Late -/
abbrev llate.D := Int × Int × Int
def llate.st : llate.D → List AVal × List Ent := fun (own, rev, delay) => ([.d (.int .u64) own, .d (.int .u64) rev, .d (.int .i64) delay], [])
abbrev llate.Y := ((List ((List Int) × (Int × (Int × (Int × Unit))))) × Unit)
abbrev llate.X := ((List ((List Int) × (Int × (Int × (Int × Unit))))) × Unit)
def llate.out : llate.X → GRes := fun x => ⟨.d (.pair (.slice (.pair (.slice (.int .u64)) (.pair (.int .i64) (.pair (.int .i64) (.pair (.int .u64) .unit))))) .unit) x, [], []⟩
def llate.add : llate.D → llate.Y → llate.X := fun (own, rev, delay) y => y


def llate.Pre : llate.D → Prop := fun _ => True
def llate.F : llate.D → llate.Y := fun (o, r, d) => lateL o r d

noncomputable def llate.G : Gam := gnil
noncomputable def llate.an : Ann := {
  objs := [],
  loops := fun r => { keep := [], sites := [], frz := [], data := [], owns := [] },
  outs := fun r b => { keep := [], sites := [], frz := [], data := [], owns := [] },
  sums := fun r => none,
  owns := [],
  trim := [],
  res := [] }
theorem llate.eq {R : Type} (own : Int) (rev : Int) (delay : Int) (k : GRes → Option R) : arun Tryz.prog llate.G llate.an 0 Tryz.f50 (llate.st (own, rev, delay)).1 (llate.st (own, rev, delay)).2 k =
  k (llate.out ([([rev], ((0 : Int), ((0 : Int), ((0 : Int), ())))), ([own], ((0 : Int), (delay, ((0 : Int), ()))))], ())) := by kernel_rfl


theorem llate.ok : ∀ d, llate.Pre d → arun Tryz.prog llate.G llate.an 0 Tryz.f50 (llate.st d).1 (llate.st d).2 some = some (llate.out (llate.add d (llate.F d))) := by
  rintro ⟨o, r, d⟩ _
  rw [llate.eq]
  rfl

theorem llate.inj : ∀ d d', llate.st d = llate.st d' → d = d' := fun (own, rev, delay) (own', rev', delay') hEq => by
  have e0 : own = own' := d_inj (t := (.int .u64)) (congrArg (fun s : List AVal × List Ent => (s.1.getD 0 .undef)) hEq)
  have e1 : rev = rev' := d_inj (t := (.int .u64)) (congrArg (fun s : List AVal × List Ent => (s.1.getD 1 .undef)) hEq)
  have e2 : delay = delay' := d_inj (t := (.int .i64)) (congrArg (fun s : List AVal × List Ent => (s.1.getD 2 .undef)) hEq)
  rw [e0, e1, e2]
noncomputable def llate.E : Entry := Entry.of [some (.int .u64), some (.int .u64), some (.int .i64)] llate.st llate.Pre (fun d => llate.add d (llate.F d)) llate.out
noncomputable def llate.call : llate.D → Option llate.X := fun d => llate.E.run (llate.st d).1 (llate.st d).2
theorem llate.run {d : llate.D} (h : llate.Pre d) : llate.call d = some (llate.add d (llate.F d)) := Entry.of_run llate.inj h
theorem llate.does : Does Tryz.prog 50 llate.E := Does.of (by kernel_rfl) (show Sound _ llate.G from Sound.nil _) (by kernel_rfl) (by kernel_rfl) (by kernel_rfl) (LOk.fn 0 (by kernel_rfl) trivial) llate.ok

/-! ### corsned/lock.Anchor -/
abbrev lanchor.D := Int
def lanchor.st : lanchor.D → List AVal × List Ent := fun own => ([.d (.int .u64) own], [])
abbrev lanchor.Y := ((List ((List Int) × (Int × (Int × (Int × Unit))))) × Unit)
abbrev lanchor.X := ((List ((List Int) × (Int × (Int × (Int × Unit))))) × Unit)
def lanchor.out : lanchor.X → GRes := fun x => ⟨.d (.pair (.slice (.pair (.slice (.int .u64)) (.pair (.int .i64) (.pair (.int .i64) (.pair (.int .u64) .unit))))) .unit) x, [], []⟩
def lanchor.add : lanchor.D → lanchor.Y → lanchor.X := fun own y => y


def lanchor.Pre : lanchor.D → Prop := fun _ => True
def lanchor.F : lanchor.D → lanchor.Y := fun o => anchorL o

noncomputable def lanchor.G : Gam := gnil
noncomputable def lanchor.an : Ann := {
  objs := [],
  loops := fun r => { keep := [], sites := [], frz := [], data := [], owns := [] },
  outs := fun r b => { keep := [], sites := [], frz := [], data := [], owns := [] },
  sums := fun r => none,
  owns := [],
  trim := [],
  res := [] }
theorem lanchor.eq {R : Type} (own : Int) (k : GRes → Option R) : arun Tryz.prog lanchor.G lanchor.an 0 Tryz.f53 (lanchor.st own).1 (lanchor.st own).2 k =
  k (lanchor.out ([([own], ((0 : Int), ((0 : Int), ((0 : Int), ())))), (([] : List Int), ((0 : Int), ((16 : Int), ((0 : Int), ()))))], ())) := by kernel_rfl


theorem lanchor.ok : ∀ d, lanchor.Pre d → arun Tryz.prog lanchor.G lanchor.an 0 Tryz.f53 (lanchor.st d).1 (lanchor.st d).2 some = some (lanchor.out (lanchor.add d (lanchor.F d))) := by
  intro o _
  rw [lanchor.eq]
  rfl

theorem lanchor.inj : ∀ d d', lanchor.st d = lanchor.st d' → d = d' := fun own own' hEq => by
  have e0 : own = own' := d_inj (t := (.int .u64)) (congrArg (fun s : List AVal × List Ent => (s.1.getD 0 .undef)) hEq)
  rw [e0]
noncomputable def lanchor.E : Entry := Entry.of [some (.int .u64)] lanchor.st lanchor.Pre (fun d => lanchor.add d (lanchor.F d)) lanchor.out
noncomputable def lanchor.call : lanchor.D → Option lanchor.X := fun d => lanchor.E.run (lanchor.st d).1 (lanchor.st d).2
theorem lanchor.run {d : lanchor.D} (h : lanchor.Pre d) : lanchor.call d = some (lanchor.add d (lanchor.F d)) := Entry.of_run lanchor.inj h
theorem lanchor.does : Does Tryz.prog 53 lanchor.E := Does.of (by kernel_rfl) (show Sound _ lanchor.G from Sound.nil _) (by kernel_rfl) (by kernel_rfl) (by kernel_rfl) (LOk.fn 0 (by kernel_rfl) trivial) lanchor.ok

/-! ### corsned/corsnedlaw12.signed -/
abbrev wsigned.L0.D := (List Int) × (List Int) × Int × Int × (Int × Unit) × Int × Nat × (Int × Unit) × (List (Int × (Int × Unit)))
def wsigned.L0.st : wsigned.L0.D → AS := fun (keys_2, m_2, i, n8, n8_2, n9, n9L, n9_2, n29) => ⟨([.undef, .d (.slice (.int .u64)) keys_2] ++ undN 4 ([.rptr (.arr 32 (.int .u8)) m_2, .undef, .ptr (.new 8 0) 0 [] 0, .ptr (.new 9 0) 0 [] 0, .d (.int .i64) i] ++ undN 21 [])), [], (nilN 8 ([[.obj 0 false (.pr (.d (.int .i64) n8) (.pr (.nils) (.d (.pair (.int .u64) .unit) n8_2)))], [.obj 0 false (.pr (.d (.int .i64) n9) (.pr (.sref (.new 29 0) 0 [] 0 0 n9L) (.d (.pair (.int .u64) .unit) n9_2)))]] ++ nilN 19 [[.obj 0 false (.vec 60 (.pair (.int .u64) (.pair (.int .u64) .unit)) n29)], [], []]))⟩
abbrev wsigned.L0.Y0 := Nat × (List (Int × (Int × Unit)))  -- n9L, n29
abbrev wsigned.L0.X0 := (Int × (Int × Unit) × Int × (Int × Unit)) × (Nat × (List (Int × (Int × Unit))))
def wsigned.L0.ex0 : wsigned.L0.X0 → Exit × AS := fun x => (.exit 0, ⟨(undN 8 ([.ptr (.new 8 0) 0 [] 0, .ptr (.new 9 0) 0 [] 0] ++ undN 22 [])), [], (nilN 8 ([[.obj 0 false (.pr (.d (.int .i64) x.1.1) (.pr (.nils) (.d (.pair (.int .u64) .unit) x.1.2.1)))], [.obj 0 false (.pr (.d (.int .i64) x.1.2.2.1) (.pr (.sref (.new 29 0) 0 [] 0 0 x.2.1) (.d (.pair (.int .u64) .unit) x.1.2.2.2)))]] ++ nilN 19 [[.obj 0 false (.vec 60 (.pair (.int .u64) (.pair (.int .u64) .unit)) x.2.2)], [], []]))⟩)
abbrev wsigned.L0.X := wsigned.L0.X0
abbrev wsigned.L0.Y := wsigned.L0.Y0
def wsigned.L0.out : wsigned.L0.X → Out (Exit × AS) := fun x => .ok (wsigned.L0.ex0 x)
def wsigned.L0.add : wsigned.L0.D → wsigned.L0.Y → wsigned.L0.X := fun (keys_2, m_2, i, n8, n8_2, n9, n9L, n9_2, n29) y => ((n8, n8_2, n9, n9_2), y)
abbrev wsigned.D := Int × (List Int) × (List Int) × Int
def wsigned.st : wsigned.D → List AVal × List Ent := fun (branch, keys, m, secret) => ([.d (.int .i64) branch, .d (.slice (.int .u64)) keys, .d (.arr 32 (.int .u8)) m, .d (.int .u64) secret], [])
abbrev wsigned.Y := (Int × ((List (Int × (Int × Unit))) × (Int × Unit)))
abbrev wsigned.X := (Int × ((List (Int × (Int × Unit))) × (Int × Unit)))
def wsigned.out : wsigned.X → GRes := fun x => ⟨.d (.pair (.int .i64) (.pair (.slice (.pair (.int .u64) (.pair (.int .u64) .unit))) (.pair (.int .u64) .unit))) x, [], []⟩
def wsigned.add : wsigned.D → wsigned.Y → wsigned.X := fun (branch, keys, m, secret) y => y


def wsigned.L0.Pre : wsigned.L0.D → Prop := fun (ks, m, i, a, b, c, n, d, l) => KeysU ks ∧ Sm m ∧ ks.length ≤ 1000000 ∧ ∃ k : Nat, k ≤ ks.length ∧ i = k ∧ k = n ∧ l = (ks.take k).map fun k => signQ k m
def wsigned.L0.F : wsigned.L0.D → wsigned.L0.Y := fun (ks, m, i, a, b, c, n, d, l) => (ks.length, ks.map fun k => signQ k m)
def signedW (branch : Int) (ks : List Int) (m : List Int) (secret : Int) : Wit := (branch, ks.map (fun k => signQ k m), secret, ())
def wsigned.Pre : wsigned.D → Prop := fun (b, ks, m, s) => KeysU ks ∧ Sm m ∧ ks.length ≤ 1000000
def wsigned.F : wsigned.D → wsigned.Y := fun (b, ks, m, s) => signedW b ks m s

noncomputable def wsigned.G : Gam := gcons 91 anyArgs ssign.E (gnil)
noncomputable def wsigned.L0.E : LEntry := LEntry.of wsigned.L0.st wsigned.L0.Pre (fun d => wsigned.L0.add d (wsigned.L0.F d)) wsigned.L0.out
noncomputable def wsigned.L0.call : wsigned.L0.D → Option wsigned.L0.X := fun d => wsigned.L0.E.run (wsigned.L0.st d)
noncomputable def wsigned.an : Ann := {
  objs := [],
  loops := fun r => bif Nat.beq r 3 then { keep := [1, 6, 8, 9, 10], sites := [8, 9, 29], frz := [], data := [], owns := [⟨9, [.snd, .fst], 29, 51⟩] } else { keep := [], sites := [], frz := [], data := [], owns := [] },
  outs := fun r b => bif Nat.beq r 3 then (bif b then { keep := [8], sites := [], frz := [], data := [], owns := [] } else { keep := [8, 9], sites := [8, 9, 29], frz := [], data := [], owns := [] }) else { keep := [], sites := [], frz := [], data := [], owns := [] },
  sums := fun r => bif Nat.beq r 3 then some wsigned.L0.E else none,
  owns := [],
  trim := [],
  res := [some (.pair (.int .i64) (.pair (.slice (.pair (.int .u64) (.pair (.int .u64) .unit))) (.pair (.int .u64) .unit)))] }
theorem wsigned.L0.inj : ∀ d d', wsigned.L0.st d = wsigned.L0.st d' → d = d' := fun (keys_2, m_2, i, n8, n8_2, n9, n9L, n9_2, n29) (keys_2', m_2', i', n8', n8_2', n9', n9L', n9_2', n29') hEq => by
  have e0 : keys_2 = keys_2' := d_inj (t := (.slice (.int .u64))) (congrArg (fun s : AS => (s.slot 1)) hEq)
  have e1 : m_2 = m_2' := rptr_inj (t := (.arr 32 (.int .u8))) (congrArg (fun s : AS => (s.slot 6)) hEq)
  have e2 : i = i' := d_inj (t := (.int .i64)) (congrArg (fun s : AS => (s.slot 10)) hEq)
  have e3 : n8 = n8' := d_inj (t := (.int .i64)) (congrArg (fun s : AS => (prA (entC (s.ent (.new 8 0))))) hEq)
  have e4 : n8_2 = n8_2' := d_inj (t := (.pair (.int .u64) .unit)) (congrArg (fun s : AS => (prB (prB (entC (s.ent (.new 8 0)))))) hEq)
  have e5 : n9 = n9' := d_inj (t := (.int .i64)) (congrArg (fun s : AS => (prA (entC (s.ent (.new 9 0))))) hEq)
  have e6 : n9L = n9L' := congrArg (fun s : AS => srefLen (prA (prB (entC (s.ent (.new 9 0)))))) hEq
  have e7 : n9_2 = n9_2' := d_inj (t := (.pair (.int .u64) .unit)) (congrArg (fun s : AS => (prB (prB (entC (s.ent (.new 9 0)))))) hEq)
  have e8 : n29 = n29' := vec_inj (e := 60) (t := (.pair (.int .u64) (.pair (.int .u64) .unit))) (congrArg (fun s : AS => (entC (s.ent (.new 29 0)))) hEq)
  rw [e0, e1, e2, e3, e4, e5, e6, e7, e8]
theorem wsigned.L0.run {d : wsigned.L0.D} (h : wsigned.L0.Pre d) : wsigned.L0.call d = some (wsigned.L0.add d (wsigned.L0.F d)) := LEntry.of_run wsigned.L0.inj h
theorem wsigned.L0.byRounds (μ : wsigned.L0.D → Nat) (h : ∀ d, wsigned.L0.Pre d → (∃ d', wsigned.L0.Pre d' ∧ μ d' < μ d ∧ wsigned.L0.add d' (wsigned.L0.F d') = wsigned.L0.add d (wsigned.L0.F d) ∧ ∀ {R : Type} (kn : AS → Option R) (kx : Exit → AS → Option R), lround Tryz.prog wsigned.G wsigned.an 0 Tryz.f52 0 (wsigned.L0.st d) kn kx = kn (wsigned.L0.st d')) ∨ (∀ {R : Type} (kn : AS → Option R) (kx : Exit → AS → Option R), lround Tryz.prog wsigned.G wsigned.an 0 Tryz.f52 0 (wsigned.L0.st d) kn kx = kx (wsigned.L0.ex0 (wsigned.L0.add d (wsigned.L0.F d))).1 (wsigned.L0.ex0 (wsigned.L0.add d (wsigned.L0.F d))).2)) : ∀ d, wsigned.L0.Pre d → ∃ n, lrun Tryz.prog wsigned.G wsigned.an 0 Tryz.f52 0 n (wsigned.L0.st d) (fun e s => some (e, s)) = (wsigned.L0.out (wsigned.L0.add d (wsigned.L0.F d))).eval := lrun_one (F := fun d => wsigned.L0.add d (wsigned.L0.F d)) μ h
theorem wsigned.L0.step {R : Type} (keys_2 : (List Int)) (m_2 : (List Int)) (i : Int) (n8 : Int) (n8_2 : (Int × Unit)) (n9 : Int) (n9L : Nat) (n9_2 : (Int × Unit)) (n29 : (List (Int × (Int × Unit)))) (kn : AS → Option R) (kx : Exit → AS → Option R) : lround Tryz.prog wsigned.G wsigned.an 0 Tryz.f52 0 (wsigned.L0.st (keys_2, m_2, i, n8, n8_2, n9, n9L, n9_2, n29)) kn kx =
  sel ((ilt i (((List.length keys_2) : Nat) : Int))) (
   sel (inb i (((List.length keys_2) : Nat) : Int)) (
   obind (ssign.call ((nth (.int .u64) keys_2 (Int.toNat i)), m_2)) fun x1 =>
   sel (decide (n9L ≤ (List.length n29))) (
   sel (roomA (n9L + 1) 16) (
   kn (wsigned.L0.st (keys_2, m_2, (iadd .i64 i (1 : Int)), n8, n8_2, n9, (n9L + 1), n9_2, ((List.take n9L n29) ++ [x1])))) none) none) none) (
   kx (wsigned.L0.ex0 ((n8, n8_2, n9, n9_2), (n9L, n29))).1 (wsigned.L0.ex0 ((n8, n8_2, n9, n9_2), (n9L, n29))).2) := by kernel_rfl
theorem wsigned.eq {R : Type} (branch : Int) (keys : (List Int)) (m : (List Int)) (secret : Int) (k : GRes → Option R) : arun Tryz.prog wsigned.G wsigned.an 0 Tryz.f52 (wsigned.st (branch, keys, m, secret)).1 (wsigned.st (branch, keys, m, secret)).2 k =
  obind (wsigned.L0.call (keys, m, (0 : Int), (0 : Int), ((0 : Int), ()), branch, 0, (secret, ()), ([] : List (Int × (Int × Unit))))) fun x3 =>
  sel (decide (0 = 0 ∧ (0 + x3.2.1) ≤ (List.length x3.2.2))) (
  k (wsigned.out (x3.1.2.2.1, ((cut x3.2.2 0 x3.2.1), x3.1.2.2.2)))) none := by kernel_rfl


theorem wsigned.L0.ok : ∀ d, wsigned.L0.Pre d → ∃ n, lrun Tryz.prog wsigned.G wsigned.an 0 Tryz.f52 0 n (wsigned.L0.st d) (fun e s => some (e, s)) = (wsigned.L0.out (wsigned.L0.add d (wsigned.L0.F d))).eval := by
  refine wsigned.L0.byRounds (fun (ks, m, i, a, b, c, n, d, l) => ks.length - i.toNat) ?_
  rintro ⟨ks, m, i, a, b, c, n, d, l⟩ ⟨hl, hm, hb, k, hk, rfl, rfl, rfl⟩
  have hb : ks.length ≤ 1000000 := hb
  have hk : k ≤ ks.length := hk
  have ll : ((ks.take k).map fun k => signQ k m).length = k := by rw [List.length_map, List.length_take]; omega
  by_cases h : k < ks.length
  · left
    have hx := hl _ (List.getElem_mem h)
    have n1 : nth (.int .u64) ks k = ks[k] := nth_lt (t := .int .u64) h
    refine ⟨(ks, m, ((k + 1 : Nat) : Int), a, b, c, k + 1, d, (ks.take (k + 1)).map fun k => signQ k m), ⟨hl, hm, hb, k + 1, by omega, rfl, rfl, rfl⟩, by simp only [Int.toNat_natCast]; omega, rfl, fun kn kx => ?_⟩
    rw [wsigned.L0.step]
    simp (disch := omega) only [↓N.lt, ↓N.le, ↓N.gt, ↓N.ge, ↓N.eq, ↓N.ne, ↓N.ib, ↓N.ic, ↓N.nn, ↓N.nz, ↓N.dc, ↓N.rm, ↓N.an, ↓N.or, ↓N.no, ↓if_pos, ↓if_neg, ↓sel_true, ↓sel_false, ↓obind_some, if_pos, if_neg, obind_some, N.aNN, N.aNL, N.aLN, N.sNN, N.sNL, N.sLN, N.mNN, N.mNL, N.mLN, N.qNN, N.qNL, N.rNN, N.rNL, N.cN, N.cL, N.tL, Int.toNat_natCast, if_true, if_false, and_self, true_and, and_true, n1]
    rw [ssign.run (d := (ks[k], m)) ⟨hx, hm⟩]
    have e : (ks.take (k + 1)).map (fun k => signQ k m) = (ks.take k).map (fun k => signQ k m) ++ [signQ ks[k] m] := by rw [List.take_succ_eq_append_getElem h, List.map_append]; rfl
    rw [e]
    simp (disch := omega) only [↓N.lt, ↓N.le, ↓N.gt, ↓N.ge, ↓N.eq, ↓N.ne, ↓N.ib, ↓N.ic, ↓N.nn, ↓N.nz, ↓N.dc, ↓N.rm, ↓N.an, ↓N.or, ↓N.no, ↓if_pos, ↓if_neg, ↓sel_true, ↓sel_false, ↓obind_some, if_pos, if_neg, obind_some, N.aNN, N.aNL, N.aLN, N.sNN, N.sNL, N.sLN, N.mNN, N.mNL, N.mLN, N.qNN, N.qNL, N.rNN, N.rNL, N.cN, N.cL, N.tL, Int.toNat_natCast, if_true, if_false, and_self, true_and, and_true, ssign.add, ssign.F, ll, Nat.le_refl, List.take_of_length_le (Nat.le_of_eq ll)]
  · right
    obtain rfl : k = ks.length := by omega
    intro R kn kx
    rw [wsigned.L0.step]
    simp (disch := omega) only [↓N.lt, ↓N.le, ↓N.gt, ↓N.ge, ↓N.eq, ↓N.ne, ↓N.ib, ↓N.ic, ↓N.nn, ↓N.nz, ↓N.dc, ↓N.rm, ↓N.an, ↓N.or, ↓N.no, ↓if_pos, ↓if_neg, ↓sel_true, ↓sel_false, ↓obind_some, if_pos, if_neg, obind_some, N.aNN, N.aNL, N.aLN, N.sNN, N.sNL, N.sLN, N.mNN, N.mNL, N.mLN, N.qNN, N.qNL, N.rNN, N.rNL, N.cN, N.cL, N.tL, Int.toNat_natCast, if_true, if_false, and_self, true_and, and_true, wsigned.L0.add, wsigned.L0.F, List.take_length]
theorem wsigned.ok : ∀ d, wsigned.Pre d → arun Tryz.prog wsigned.G wsigned.an 0 Tryz.f52 (wsigned.st d).1 (wsigned.st d).2 some = some (wsigned.out (wsigned.add d (wsigned.F d))) := by
  rintro ⟨b, ks, m, s⟩ ⟨hl, hm, hb⟩
  rw [wsigned.eq, wsigned.L0.run (d := (ks, m, 0, 0, (0, ()), b, 0, (s, ()), [])) ⟨hl, hm, hb, 0, by omega, rfl, rfl, rfl⟩]
  simp only [obind_some, wsigned.L0.add, wsigned.L0.F, List.length_map, Nat.zero_add, Nat.le_refl, and_self, decide_true, sel_true]
  rw [cut_len (l := List.map (fun k => signQ k m) ks) (by rw [List.length_map])]
  rfl

theorem wsigned.inj : ∀ d d', wsigned.st d = wsigned.st d' → d = d' := fun (branch, keys, m, secret) (branch', keys', m', secret') hEq => by
  have e0 : branch = branch' := d_inj (t := (.int .i64)) (congrArg (fun s : List AVal × List Ent => (s.1.getD 0 .undef)) hEq)
  have e1 : keys = keys' := d_inj (t := (.slice (.int .u64))) (congrArg (fun s : List AVal × List Ent => (s.1.getD 1 .undef)) hEq)
  have e2 : m = m' := d_inj (t := (.arr 32 (.int .u8))) (congrArg (fun s : List AVal × List Ent => (s.1.getD 2 .undef)) hEq)
  have e3 : secret = secret' := d_inj (t := (.int .u64)) (congrArg (fun s : List AVal × List Ent => (s.1.getD 3 .undef)) hEq)
  rw [e0, e1, e2, e3]
noncomputable def wsigned.E : Entry := Entry.of [some (.int .i64), some (.slice (.int .u64)), some (.arr 32 (.int .u8)), some (.int .u64)] wsigned.st wsigned.Pre (fun d => wsigned.add d (wsigned.F d)) wsigned.out
noncomputable def wsigned.call : wsigned.D → Option wsigned.X := fun d => wsigned.E.run (wsigned.st d).1 (wsigned.st d).2
theorem wsigned.run {d : wsigned.D} (h : wsigned.Pre d) : wsigned.call d = some (wsigned.add d (wsigned.F d)) := Entry.of_run wsigned.inj h
theorem wsigned.does : Does Tryz.prog 52 wsigned.E := Does.of (by kernel_rfl) (show Sound _ wsigned.G from Sound.cons ssign.does (Sound.nil _)) (by kernel_rfl) (by kernel_rfl) (by kernel_rfl) (LOk.fn 1 (by kernel_rfl) (And.intro (LDo.of (by kernel_rfl) wsigned.L0.ok) trivial)) wsigned.ok

end Go.Ab
namespace Go.Ab
open Go.Proofs
set_option maxRecDepth 100000
set_option linter.unusedVariables false
set_option linter.unusedSimpArgs false

/-! ### slices.Grow[[]byte,byte] -/
abbrev bgrow.D := Int
def bgrow.st : bgrow.D → List AVal × List Ent := fun n => ([.nils, .d (.int .i64) n], [])
abbrev bgrow.Y := Nat × (List Int)
abbrev bgrow.X := Nat × (List Int)
def bgrow.out : bgrow.X → GRes := fun x => ⟨.sref (.new 0 0) 0 [] 0 0 x.1, [], [.obj 0 false (.vec 5 (.int .u8) x.2)]⟩
def bgrow.add : bgrow.D → bgrow.Y → bgrow.X := fun n y => y


def bgrow.Pre : bgrow.D → Prop := fun n => ∃ k : Nat, n = k ∧ k ≤ 100000000
def bgrow.F : bgrow.D → bgrow.Y := fun n => (0, List.replicate n.toNat 0)

noncomputable def bgrow.G : Gam := gnil
noncomputable def bgrow.an : Ann := {
  objs := [],
  loops := fun r => { keep := [], sites := [], frz := [], data := [], owns := [] },
  outs := fun r b => { keep := [], sites := [], frz := [], data := [], owns := [] },
  sums := fun r => none,
  owns := [⟨4, [], 22, 25⟩],
  trim := [],
  res := [] }
theorem bgrow.eq {R : Type} (n : Int) (k : GRes → Option R) : arun Tryz.prog bgrow.G bgrow.an 0 Tryz.f170 (bgrow.st n).1 (bgrow.st n).2 k =
  sel ((ilt n (0 : Int))) (
   none /- op makeInterface at slices.go:424: makeInterface -/) (
   sel ((igt (isub .i64 n (0 : Int)) (0 : Int))) (
    sel (decide (0 < (isub .i64 n (0 : Int))) && roomA (Int.toNat (isub .i64 n (0 : Int))) 1) (
    sel (inc (0 : Int) (((Int.toNat (isub .i64 n (0 : Int))) : Nat) : Int)) (
    k (bgrow.out (0, (List.replicate (Int.toNat (isub .i64 n (0 : Int))) (0 : Int))))) none) none) (
    k (bgrow.out (0, ([] : List Int))))) := by kernel_rfl


theorem bgrow.ok : ∀ d, bgrow.Pre d → arun Tryz.prog bgrow.G bgrow.an 0 Tryz.f170 (bgrow.st d).1 (bgrow.st d).2 some = some (bgrow.out (bgrow.add d (bgrow.F d))) := by
  rintro n ⟨k, rfl, hk⟩
  have e : isub .i64 (k : Int) 0 = (k : Int) := by rw [isub_i64 (by omega) (by omega)]; omega
  rw [bgrow.eq, e, ilt_false (by omega), sel_false]
  by_cases h : 0 < k
  · rw [igt_true (by omega), Int.toNat_natCast, dec_true (by omega), room_true (by omega) (by omega), inc_true (by omega) (by omega)]
    rfl
  · obtain rfl : k = 0 := by omega
    rfl

theorem bgrow.inj : ∀ d d', bgrow.st d = bgrow.st d' → d = d' := fun n n' hEq => by
  have e0 : n = n' := d_inj (t := (.int .i64)) (congrArg (fun s : List AVal × List Ent => (s.1.getD 1 .undef)) hEq)
  rw [e0]
noncomputable def bgrow.E : Entry := Entry.of [none, some (.int .i64)] bgrow.st bgrow.Pre (fun d => bgrow.add d (bgrow.F d)) bgrow.out
noncomputable def bgrow.call : bgrow.D → Option bgrow.X := fun d => bgrow.E.run (bgrow.st d).1 (bgrow.st d).2
theorem bgrow.run {d : bgrow.D} (h : bgrow.Pre d) : bgrow.call d = some (bgrow.add d (bgrow.F d)) := Entry.of_run bgrow.inj h
theorem bgrow.does : Does Tryz.prog 170 bgrow.E := Does.of (by kernel_rfl) (show Sound _ bgrow.G from Sound.nil _) (by kernel_rfl) (by kernel_rfl) (by kernel_rfl) (LOk.fn 0 (by kernel_rfl) trivial) bgrow.ok


def lensL (l : List (List Int)) : Nat := l.flatten.length
def catF (n : Nat) (l : List Int) : List (List Int) → Nat × List Int
  | [] => (n, l)
  | s :: r => (n + (s :: r).flatten.length, l.take n ++ (s :: r).flatten)
theorem catF_cons (n : Nat) (l s : List Int) (r : List (List Int)) (h : n ≤ l.length) : catF n l (s :: r) = catF (n + s.length) (l.take n ++ s) r := by
  have hl : (l.take n ++ s).length = n + s.length := by rw [List.length_append, List.length_take]; omega
  cases r with
  | nil => simp [catF]
  | cons t r =>
    simp only [catF]
    rw [List.take_of_length_le (Nat.le_of_eq hl)]
    simp only [List.flatten_cons, List.length_append, List.append_assoc, Nat.add_assoc]
theorem cut_cat (n : Nat) (z : List Int) (r : List (List Int)) : (catF 0 z r).1 ≤ (catF 0 z r).2.length ∧ cut (catF 0 z r).2 0 (catF 0 z r).1 = r.flatten := by
  cases r with
  | nil => exact ⟨Nat.zero_le _, rfl⟩
  | cons s r =>
    simp only [catF, List.take_zero, List.nil_append, Nat.zero_add]
    exact ⟨Nat.le_refl _, by show List.take _ (List.drop 0 _) = _; rw [List.drop_zero, List.take_length]⟩
theorem lens_drop (l : List (List Int)) (k : Nat) : lensL (l.drop k) ≤ lensL l := by
  have : lensL l = lensL (l.take k) + lensL (l.drop k) := by
    unfold lensL
    rw [← List.length_append, ← List.flatten_append, List.take_append_drop]
  omega

/-! ### slices.Concat[[]byte,byte] -/
abbrev bconcat.L0.D := (List (List Int)) × Int × (List (List Int)) × Int × Int
def bconcat.L0.st : bconcat.L0.D → AS := fun (slices_2, size, t9, t10, t11) => ⟨([.d (.slice (.slice (.int .u8))) slices_2, .undef, .undef, .d (.int .i64) size] ++ undN 5 ([.d (.slice (.slice (.int .u8))) t9, .d (.int .i64) t10, .d (.int .i64) t11] ++ undN 24 [])), [], (List.replicate 36 [])⟩
abbrev bconcat.L0.Y0 := Int  -- size
abbrev bconcat.L0.X0 := ((List (List Int))) × (Int)
def bconcat.L0.ex0 : bconcat.L0.X0 → Exit × AS := fun x => (.exit 0, ⟨([.d (.slice (.slice (.int .u8))) x.1, .undef, .undef, .d (.int .i64) x.2] ++ undN 32 []), [], (List.replicate 36 [])⟩)
abbrev bconcat.L0.X := bconcat.L0.X0
abbrev bconcat.L0.Y := bconcat.L0.Y0
def bconcat.L0.out : bconcat.L0.X → Out (Exit × AS) := fun x => .ok (bconcat.L0.ex0 x)
def bconcat.L0.add : bconcat.L0.D → bconcat.L0.Y → bconcat.L0.X := fun (slices_2, size, t9, t10, t11) y => (slices_2, y)
abbrev bconcat.L1.D := Nat × (List (List Int)) × Int × Int × (List Int)
def bconcat.L1.st : bconcat.L1.D → AS := fun (newsliceL, t25, t26, t27, n24) => ⟨(undN 6 ([.sref (.new 24 0) 0 [] 0 0 newsliceL] ++ undN 18 ([.d (.slice (.slice (.int .u8))) t25, .d (.int .i64) t26, .d (.int .i64) t27] ++ undN 8 []))), [], (nilN 24 ([[.obj 0 false (.vec 5 (.int .u8) n24)]] ++ nilN 11 []))⟩
abbrev bconcat.L1.Y0 := Nat × (List Int)  -- newsliceL, n24
abbrev bconcat.L1.X0 := Nat × (List Int)
def bconcat.L1.ex0 : bconcat.L1.X0 → Exit × AS := fun x => (.exit 2, ⟨(undN 6 ([.sref (.new 24 0) 0 [] 0 0 x.1] ++ undN 29 [])), [], (nilN 24 ([[.obj 0 false (.vec 5 (.int .u8) x.2)]] ++ nilN 11 []))⟩)
abbrev bconcat.L1.X := bconcat.L1.X0
abbrev bconcat.L1.Y := bconcat.L1.Y0
def bconcat.L1.out : bconcat.L1.X → Out (Exit × AS) := fun x => .ok (bconcat.L1.ex0 x)
def bconcat.L1.add : bconcat.L1.D → bconcat.L1.Y → bconcat.L1.X := fun (newsliceL, t25, t26, t27, n24) y => y
abbrev bconcat.D := (List (List Int))
def bconcat.st : bconcat.D → List AVal × List Ent := fun slices => ([.d (.slice (.slice (.int .u8))) slices], [])
abbrev bconcat.Y := (List Int)
abbrev bconcat.X := (List Int)
def bconcat.out : bconcat.X → GRes := fun x => ⟨.d (.slice (.int .u8)) x, [], []⟩
def bconcat.add : bconcat.D → bconcat.Y → bconcat.X := fun slices y => y


def bconcat.L0.Pre : bconcat.L0.D → Prop := fun (s, size, t, n, i) => s.length ≤ 1000000 ∧ t = s ∧ n = s.length ∧ ∃ k z : Nat, k ≤ s.length ∧ i = k ∧ size = z ∧ z + lensL (s.drop k) ≤ 100000000
def bconcat.L0.F : bconcat.L0.D → bconcat.L0.Y := fun (s, size, t, n, i) => ((size : Int) + ((lensL (s.drop i.toNat) : Nat) : Int) : Int)
def bconcat.L1.Pre : bconcat.L1.D → Prop := fun (n, s, t, i, l) => s.length ≤ 1000000 ∧ n ≤ l.length ∧ t = s.length ∧ ∃ k : Nat, k ≤ s.length ∧ i = k ∧ n + lensL (s.drop k) ≤ 100000000
def bconcat.L1.F : bconcat.L1.D → bconcat.L1.Y := fun (n, s, t, i, l) => catF n l (s.drop i.toNat)
def bconcat.Pre : bconcat.D → Prop := fun s => s.length ≤ 1000000 ∧ lensL s ≤ 100000000
def bconcat.F : bconcat.D → bconcat.Y := fun s => s.flatten

noncomputable def bconcat.G : Gam := gcons 170 anyArgs bgrow.E (gnil)
noncomputable def bconcat.L0.E : LEntry := LEntry.of bconcat.L0.st bconcat.L0.Pre (fun d => bconcat.L0.add d (bconcat.L0.F d)) bconcat.L0.out
noncomputable def bconcat.L0.call : bconcat.L0.D → Option bconcat.L0.X := fun d => bconcat.L0.E.run (bconcat.L0.st d)
noncomputable def bconcat.L1.E : LEntry := LEntry.of bconcat.L1.st bconcat.L1.Pre (fun d => bconcat.L1.add d (bconcat.L1.F d)) bconcat.L1.out
noncomputable def bconcat.L1.call : bconcat.L1.D → Option bconcat.L1.X := fun d => bconcat.L1.E.run (bconcat.L1.st d)
noncomputable def bconcat.an : Ann := {
  objs := [],
  loops := fun r => bif Nat.beq r 3 then { keep := [0, 3, 9, 10, 11], sites := [], frz := [], data := [], owns := [] } else bif Nat.beq r 11 then { keep := [6, 25, 26, 27], sites := [24], frz := [], data := [], owns := [⟨6, [], 24, 25⟩] } else { keep := [], sites := [], frz := [], data := [], owns := [] },
  outs := fun r b => bif Nat.beq r 3 then (bif b then { keep := [2], sites := [], frz := [], data := [], owns := [] } else { keep := [0, 3], sites := [], frz := [], data := [], owns := [] }) else bif Nat.beq r 11 then (bif b then { keep := [2], sites := [], frz := [], data := [], owns := [] } else { keep := [6], sites := [24], frz := [], data := [], owns := [] }) else { keep := [], sites := [], frz := [], data := [], owns := [] },
  sums := fun r => bif Nat.beq r 3 then some bconcat.L0.E else bif Nat.beq r 11 then some bconcat.L1.E else none,
  owns := [],
  trim := [],
  res := [some (.slice (.int .u8))] }
theorem bconcat.L0.inj : ∀ d d', bconcat.L0.st d = bconcat.L0.st d' → d = d' := fun (slices_2, size, t9, t10, t11) (slices_2', size', t9', t10', t11') hEq => by
  have e0 : slices_2 = slices_2' := d_inj (t := (.slice (.slice (.int .u8)))) (congrArg (fun s : AS => (s.slot 0)) hEq)
  have e1 : size = size' := d_inj (t := (.int .i64)) (congrArg (fun s : AS => (s.slot 3)) hEq)
  have e2 : t9 = t9' := d_inj (t := (.slice (.slice (.int .u8)))) (congrArg (fun s : AS => (s.slot 9)) hEq)
  have e3 : t10 = t10' := d_inj (t := (.int .i64)) (congrArg (fun s : AS => (s.slot 10)) hEq)
  have e4 : t11 = t11' := d_inj (t := (.int .i64)) (congrArg (fun s : AS => (s.slot 11)) hEq)
  rw [e0, e1, e2, e3, e4]
theorem bconcat.L0.run {d : bconcat.L0.D} (h : bconcat.L0.Pre d) : bconcat.L0.call d = some (bconcat.L0.add d (bconcat.L0.F d)) := LEntry.of_run bconcat.L0.inj h
theorem bconcat.L0.byRounds (μ : bconcat.L0.D → Nat) (h : ∀ d, bconcat.L0.Pre d → (∃ d', bconcat.L0.Pre d' ∧ μ d' < μ d ∧ bconcat.L0.add d' (bconcat.L0.F d') = bconcat.L0.add d (bconcat.L0.F d) ∧ ∀ {R : Type} (kn : AS → Option R) (kx : Exit → AS → Option R), lround Tryz.prog bconcat.G bconcat.an 0 Tryz.f153 0 (bconcat.L0.st d) kn kx = kn (bconcat.L0.st d')) ∨ (∀ {R : Type} (kn : AS → Option R) (kx : Exit → AS → Option R), lround Tryz.prog bconcat.G bconcat.an 0 Tryz.f153 0 (bconcat.L0.st d) kn kx = kx (bconcat.L0.ex0 (bconcat.L0.add d (bconcat.L0.F d))).1 (bconcat.L0.ex0 (bconcat.L0.add d (bconcat.L0.F d))).2)) : ∀ d, bconcat.L0.Pre d → ∃ n, lrun Tryz.prog bconcat.G bconcat.an 0 Tryz.f153 0 n (bconcat.L0.st d) (fun e s => some (e, s)) = (bconcat.L0.out (bconcat.L0.add d (bconcat.L0.F d))).eval := lrun_one (F := fun d => bconcat.L0.add d (bconcat.L0.F d)) μ h
theorem bconcat.L0.step {R : Type} (slices_2 : (List (List Int))) (size : Int) (t9 : (List (List Int))) (t10 : Int) (t11 : Int) (kn : AS → Option R) (kx : Exit → AS → Option R) : lround Tryz.prog bconcat.G bconcat.an 0 Tryz.f153 0 (bconcat.L0.st (slices_2, size, t9, t10, t11)) kn kx =
  sel ((ilt t11 t10)) (
   sel (inb t11 (((List.length t9) : Nat) : Int)) (
   sel ((ilt (iadd .i64 size (((List.length (nth (.slice (.int .u8)) t9 (Int.toNat t11))) : Nat) : Int)) (0 : Int))) (
    none /- op makeInterface at slices.go:496: makeInterface -/) (
    kn (bconcat.L0.st (slices_2, (iadd .i64 size (((List.length (nth (.slice (.int .u8)) t9 (Int.toNat t11))) : Nat) : Int)), t9, t10, (iadd .i64 t11 (1 : Int)))))) none) (
   kx (bconcat.L0.ex0 (slices_2, size)).1 (bconcat.L0.ex0 (slices_2, size)).2) := by kernel_rfl
theorem bconcat.L1.inj : ∀ d d', bconcat.L1.st d = bconcat.L1.st d' → d = d' := fun (newsliceL, t25, t26, t27, n24) (newsliceL', t25', t26', t27', n24') hEq => by
  have e0 : newsliceL = newsliceL' := congrArg (fun s : AS => srefLen (s.slot 6)) hEq
  have e1 : t25 = t25' := d_inj (t := (.slice (.slice (.int .u8)))) (congrArg (fun s : AS => (s.slot 25)) hEq)
  have e2 : t26 = t26' := d_inj (t := (.int .i64)) (congrArg (fun s : AS => (s.slot 26)) hEq)
  have e3 : t27 = t27' := d_inj (t := (.int .i64)) (congrArg (fun s : AS => (s.slot 27)) hEq)
  have e4 : n24 = n24' := vec_inj (e := 5) (t := (.int .u8)) (congrArg (fun s : AS => (entC (s.ent (.new 24 0)))) hEq)
  rw [e0, e1, e2, e3, e4]
theorem bconcat.L1.run {d : bconcat.L1.D} (h : bconcat.L1.Pre d) : bconcat.L1.call d = some (bconcat.L1.add d (bconcat.L1.F d)) := LEntry.of_run bconcat.L1.inj h
theorem bconcat.L1.byRounds (μ : bconcat.L1.D → Nat) (h : ∀ d, bconcat.L1.Pre d → (∃ d', bconcat.L1.Pre d' ∧ μ d' < μ d ∧ bconcat.L1.add d' (bconcat.L1.F d') = bconcat.L1.add d (bconcat.L1.F d) ∧ ∀ {R : Type} (kn : AS → Option R) (kx : Exit → AS → Option R), lround Tryz.prog bconcat.G bconcat.an 0 Tryz.f153 1 (bconcat.L1.st d) kn kx = kn (bconcat.L1.st d')) ∨ (∀ {R : Type} (kn : AS → Option R) (kx : Exit → AS → Option R), lround Tryz.prog bconcat.G bconcat.an 0 Tryz.f153 1 (bconcat.L1.st d) kn kx = kx (bconcat.L1.ex0 (bconcat.L1.add d (bconcat.L1.F d))).1 (bconcat.L1.ex0 (bconcat.L1.add d (bconcat.L1.F d))).2)) : ∀ d, bconcat.L1.Pre d → ∃ n, lrun Tryz.prog bconcat.G bconcat.an 0 Tryz.f153 1 n (bconcat.L1.st d) (fun e s => some (e, s)) = (bconcat.L1.out (bconcat.L1.add d (bconcat.L1.F d))).eval := lrun_one (F := fun d => bconcat.L1.add d (bconcat.L1.F d)) μ h
theorem bconcat.L1.step {R : Type} (newsliceL : Nat) (t25 : (List (List Int))) (t26 : Int) (t27 : Int) (n24 : (List Int)) (kn : AS → Option R) (kx : Exit → AS → Option R) : lround Tryz.prog bconcat.G bconcat.an 0 Tryz.f153 1 (bconcat.L1.st (newsliceL, t25, t26, t27, n24)) kn kx =
  sel ((ilt t27 t26)) (
   sel (inb t27 (((List.length t25) : Nat) : Int)) (
   sel (decide (newsliceL ≤ (List.length n24))) (
   sel (roomA (newsliceL + (List.length (nth (.slice (.int .u8)) t25 (Int.toNat t27)))) 1) (
   kn (bconcat.L1.st ((newsliceL + (List.length (nth (.slice (.int .u8)) t25 (Int.toNat t27)))), t25, t26, (iadd .i64 t27 (1 : Int)), ((List.take newsliceL n24) ++ (nth (.slice (.int .u8)) t25 (Int.toNat t27)))))) none) none) none) (
   kx (bconcat.L1.ex0 (newsliceL, n24)).1 (bconcat.L1.ex0 (newsliceL, n24)).2) := by kernel_rfl
theorem bconcat.eq {R : Type} (slices : (List (List Int))) (k : GRes → Option R) : arun Tryz.prog bconcat.G bconcat.an 0 Tryz.f153 (bconcat.st slices).1 (bconcat.st slices).2 k =
  obind (bconcat.L0.call (slices, (0 : Int), slices, (((List.length slices) : Nat) : Int), (0 : Int))) fun x1 =>
  obind (bgrow.call x1.2) fun x2 =>
  obind (bconcat.L1.call (x2.1, x1.1, (((List.length x1.1) : Nat) : Int), (0 : Int), x2.2)) fun x3 =>
  sel (decide (0 = 0 ∧ (0 + x3.1) ≤ (List.length x3.2))) (
  k (bconcat.out (cut x3.2 0 x3.1))) none := by kernel_rfl


theorem lens_at (s : List (List Int)) (k : Nat) (h : k < s.length) : lensL (s.drop k) = s[k].length + lensL (s.drop (k + 1)) := by
  unfold lensL
  rw [List.drop_eq_getElem_cons h, List.flatten_cons, List.length_append]
theorem bconcat.L0.ok : ∀ d, bconcat.L0.Pre d → ∃ n, lrun Tryz.prog bconcat.G bconcat.an 0 Tryz.f153 0 n (bconcat.L0.st d) (fun e s => some (e, s)) = (bconcat.L0.out (bconcat.L0.add d (bconcat.L0.F d))).eval := by
  refine bconcat.L0.byRounds (fun (s, size, t, n, i) => s.length - i.toNat) ?_
  rintro ⟨s, size, t, n, i⟩ ⟨hs, rfl, rfl, k, z, hk, rfl, rfl, hz⟩
  have hs : t.length ≤ 1000000 := hs
  have hk : k ≤ t.length := hk
  have hz : z + lensL (t.drop k) ≤ 100000000 := hz
  by_cases h : k < t.length
  · left
    have n1 : nth (.slice (.int .u8)) t k = t[k] := nth_lt (t := .slice (.int .u8)) h
    have hd := lens_at t k h
    refine ⟨(t, ((z + t[k].length : Nat) : Int), t, t.length, ((k + 1 : Nat) : Int)), ⟨hs, rfl, rfl, k + 1, z + t[k].length, by omega, rfl, rfl, by omega⟩, by simp only [Int.toNat_natCast]; omega, ?_, fun kn kx => ?_⟩
    · simp only [bconcat.L0.add, bconcat.L0.F, Int.toNat_natCast]
      rw [hd]
      refine congrArg _ ?_
      omega
    · rw [bconcat.L0.step]
      simp (disch := omega) only [↓N.lt, ↓N.le, ↓N.gt, ↓N.ge, ↓N.eq, ↓N.ne, ↓N.ib, ↓N.ic, ↓N.nn, ↓N.nz, ↓N.dc, ↓N.rm, ↓N.an, ↓N.or, ↓N.no, ↓if_pos, ↓if_neg, ↓sel_true, ↓sel_false, ↓obind_some, if_pos, if_neg, obind_some, N.aNN, N.aNL, N.aLN, N.sNN, N.sNL, N.sLN, N.mNN, N.mNL, N.mLN, N.qNN, N.qNL, N.rNN, N.rNL, N.cN, N.cL, N.tL, Int.toNat_natCast, if_true, if_false, and_self, true_and, and_true, n1]
  · right
    obtain rfl : k = t.length := by omega
    intro R kn kx
    rw [bconcat.L0.step]
    simp (disch := omega) only [↓N.lt, ↓N.le, ↓N.gt, ↓N.ge, ↓N.eq, ↓N.ne, ↓N.ib, ↓N.ic, ↓N.nn, ↓N.nz, ↓N.dc, ↓N.rm, ↓N.an, ↓N.or, ↓N.no, ↓if_pos, ↓if_neg, ↓sel_true, ↓sel_false, ↓obind_some, if_pos, if_neg, obind_some, N.aNN, N.aNL, N.aLN, N.sNN, N.sNL, N.sLN, N.mNN, N.mNL, N.mLN, N.qNN, N.qNL, N.rNN, N.rNL, N.cN, N.cL, N.tL, Int.toNat_natCast, if_true, if_false, and_self, true_and, and_true, bconcat.L0.add, bconcat.L0.F, List.drop_length]
    simp only [lensL, List.flatten_nil, List.length_nil, Int.natCast_zero, Int.add_zero]
theorem bconcat.L1.ok : ∀ d, bconcat.L1.Pre d → ∃ n, lrun Tryz.prog bconcat.G bconcat.an 0 Tryz.f153 1 n (bconcat.L1.st d) (fun e s => some (e, s)) = (bconcat.L1.out (bconcat.L1.add d (bconcat.L1.F d))).eval := by
  refine bconcat.L1.byRounds (fun (n, s, t, i, l) => s.length - i.toNat) ?_
  rintro ⟨n, s, t, i, l⟩ ⟨hs, hn, rfl, k, hk, rfl, hz⟩
  have hs : s.length ≤ 1000000 := hs
  have hn : n ≤ l.length := hn
  have hk : k ≤ s.length := hk
  have hz : n + lensL (s.drop k) ≤ 100000000 := hz
  by_cases h : k < s.length
  · left
    have n1 : nth (.slice (.int .u8)) s k = s[k] := nth_lt (t := .slice (.int .u8)) h
    have hd := lens_at s k h
    refine ⟨(n + s[k].length, s, s.length, ((k + 1 : Nat) : Int), l.take n ++ s[k]), ⟨hs, by rw [List.length_append, List.length_take]; omega, rfl, k + 1, by omega, rfl, by omega⟩, by simp only [Int.toNat_natCast]; omega, ?_, fun kn kx => ?_⟩
    · simp only [bconcat.L1.add, bconcat.L1.F, Int.toNat_natCast]
      rw [List.drop_eq_getElem_cons h, catF_cons _ _ _ _ hn]
    · rw [bconcat.L1.step]
      simp (disch := omega) only [↓N.lt, ↓N.le, ↓N.gt, ↓N.ge, ↓N.eq, ↓N.ne, ↓N.ib, ↓N.ic, ↓N.nn, ↓N.nz, ↓N.dc, ↓N.rm, ↓N.an, ↓N.or, ↓N.no, ↓if_pos, ↓if_neg, ↓sel_true, ↓sel_false, ↓obind_some, if_pos, if_neg, obind_some, N.aNN, N.aNL, N.aLN, N.sNN, N.sNL, N.sLN, N.mNN, N.mNL, N.mLN, N.qNN, N.qNL, N.rNN, N.rNL, N.cN, N.cL, N.tL, Int.toNat_natCast, if_true, if_false, and_self, true_and, and_true, n1]
  · right
    obtain rfl : k = s.length := by omega
    intro R kn kx
    rw [bconcat.L1.step]
    simp (disch := omega) only [↓N.lt, ↓N.le, ↓N.gt, ↓N.ge, ↓N.eq, ↓N.ne, ↓N.ib, ↓N.ic, ↓N.nn, ↓N.nz, ↓N.dc, ↓N.rm, ↓N.an, ↓N.or, ↓N.no, ↓if_pos, ↓if_neg, ↓sel_true, ↓sel_false, ↓obind_some, if_pos, if_neg, obind_some, N.aNN, N.aNL, N.aLN, N.sNN, N.sNL, N.sLN, N.mNN, N.mNL, N.mLN, N.qNN, N.qNL, N.rNN, N.rNL, N.cN, N.cL, N.tL, Int.toNat_natCast, if_true, if_false, and_self, true_and, and_true, bconcat.L1.add, bconcat.L1.F, List.drop_length]
    rfl
theorem bconcat.ok : ∀ d, bconcat.Pre d → arun Tryz.prog bconcat.G bconcat.an 0 Tryz.f153 (bconcat.st d).1 (bconcat.st d).2 some = some (bconcat.out (bconcat.add d (bconcat.F d))) := by
  rintro s ⟨hs, hz⟩
  have hs : s.length ≤ 1000000 := hs
  have hz : lensL s ≤ 100000000 := hz
  have p1 : bconcat.L0.Pre (s, 0, s, s.length, 0) := ⟨hs, rfl, rfl, 0, 0, by omega, rfl, rfl, by rw [List.drop_zero]; omega⟩
  have p2 : bconcat.L1.Pre (0, s, s.length, 0, List.replicate (lensL s) 0) := ⟨hs, by omega, rfl, 0, by omega, rfl, by rw [List.drop_zero]; omega⟩
  rw [bconcat.eq, bconcat.L0.run p1]
  simp only [obind_some, bconcat.L0.add, bconcat.L0.F, Int.toNat_zero, List.drop_zero, Int.zero_add]
  rw [bgrow.run (d := ((lensL s : Nat) : Int)) ⟨lensL s, rfl, hz⟩]
  simp only [obind_some, bgrow.add, bgrow.F, Int.toNat_natCast]
  rw [bconcat.L1.run p2]
  simp only [obind_some, bconcat.L1.add, bconcat.L1.F, Int.toNat_zero, List.drop_zero]
  obtain ⟨c1, c2⟩ := cut_cat 0 (List.replicate (lensL s) 0) s
  simp only [Nat.zero_add, c1, and_self, decide_true, sel_true, c2]
  rfl

theorem bconcat.inj : ∀ d d', bconcat.st d = bconcat.st d' → d = d' := fun slices slices' hEq => by
  have e0 : slices = slices' := d_inj (t := (.slice (.slice (.int .u8)))) (congrArg (fun s : List AVal × List Ent => (s.1.getD 0 .undef)) hEq)
  rw [e0]
noncomputable def bconcat.E : Entry := Entry.of [some (.slice (.slice (.int .u8)))] bconcat.st bconcat.Pre (fun d => bconcat.add d (bconcat.F d)) bconcat.out
noncomputable def bconcat.call : bconcat.D → Option bconcat.X := fun d => bconcat.E.run (bconcat.st d).1 (bconcat.st d).2
theorem bconcat.run {d : bconcat.D} (h : bconcat.Pre d) : bconcat.call d = some (bconcat.add d (bconcat.F d)) := Entry.of_run bconcat.inj h
theorem bconcat.does : Does Tryz.prog 153 bconcat.E := Does.of (by kernel_rfl) (show Sound _ bconcat.G from Sound.cons bgrow.does (Sound.nil _)) (by kernel_rfl) (by kernel_rfl) (by kernel_rfl) (LOk.fn 2 (by kernel_rfl) (And.intro (LDo.of (by kernel_rfl) bconcat.L0.ok) (And.intro (LDo.of (by kernel_rfl) bconcat.L1.ok) trivial))) bconcat.ok

/-! ### corsned/code.laid -/
abbrev claid.D := (List Int) × (List Int)
def claid.st : claid.D → List AVal × List Ent := fun (b, more) => ([.d (.slice (.int .u8)) b, .d (.slice (.int .u8)) more], [])
abbrev claid.Y := (List Int)
abbrev claid.X := (List Int)
def claid.out : claid.X → GRes := fun x => ⟨.d (.slice (.int .u8)) x, [], []⟩
def claid.add : claid.D → claid.Y → claid.X := fun (b, more) y => y


def claid.Pre : claid.D → Prop := fun (a, b) => a.length + b.length ≤ 100000000
def claid.F : claid.D → claid.Y := fun (a, b) => a ++ b

noncomputable def claid.G : Gam := gcons 153 anyArgs bconcat.E (gnil)
noncomputable def claid.an : Ann := {
  objs := [],
  loops := fun r => { keep := [], sites := [], frz := [], data := [], owns := [] },
  outs := fun r b => { keep := [], sites := [], frz := [], data := [], owns := [] },
  sums := fun r => none,
  owns := [],
  trim := [],
  res := [] }
theorem claid.eq {R : Type} (b : (List Int)) (more : (List Int)) (k : GRes → Option R) : arun Tryz.prog claid.G claid.an 0 Tryz.f119 (claid.st (b, more)).1 (claid.st (b, more)).2 k =
  obind (bconcat.call [b, more]) fun x1 =>
  k (claid.out x1) := by kernel_rfl


theorem claid.ok : ∀ d, claid.Pre d → arun Tryz.prog claid.G claid.an 0 Tryz.f119 (claid.st d).1 (claid.st d).2 some = some (claid.out (claid.add d (claid.F d))) := by
  rintro ⟨a, b⟩ h
  have h : a.length + b.length ≤ 100000000 := h
  rw [claid.eq, bconcat.run (d := [a, b]) ⟨by show [a, b].length ≤ _; simp, by show lensL [a, b] ≤ _; simp only [lensL, List.flatten_cons, List.flatten_nil, List.append_nil, List.length_append]; omega⟩]
  simp only [obind_some, bconcat.add, bconcat.F, claid.add, claid.F, List.flatten_cons, List.flatten_nil, List.append_nil]

theorem claid.inj : ∀ d d', claid.st d = claid.st d' → d = d' := fun (b, more) (b', more') hEq => by
  have e0 : b = b' := d_inj (t := (.slice (.int .u8))) (congrArg (fun s : List AVal × List Ent => (s.1.getD 0 .undef)) hEq)
  have e1 : more = more' := d_inj (t := (.slice (.int .u8))) (congrArg (fun s : List AVal × List Ent => (s.1.getD 1 .undef)) hEq)
  rw [e0, e1]
noncomputable def claid.E : Entry := Entry.of [some (.slice (.int .u8)), some (.slice (.int .u8))] claid.st claid.Pre (fun d => claid.add d (claid.F d)) claid.out
noncomputable def claid.call : claid.D → Option claid.X := fun d => claid.E.run (claid.st d).1 (claid.st d).2
theorem claid.run {d : claid.D} (h : claid.Pre d) : claid.call d = some (claid.add d (claid.F d)) := Entry.of_run claid.inj h
theorem claid.does : Does Tryz.prog 119 claid.E := Does.of (by kernel_rfl) (show Sound _ claid.G from Sound.cons bconcat.does (Sound.nil _)) (by kernel_rfl) (by kernel_rfl) (by kernel_rfl) (LOk.fn 0 (by kernel_rfl) trivial) claid.ok

end Go.Ab
namespace Go.Ab
open Go.Proofs
set_option maxRecDepth 100000
set_option linter.unusedVariables false
set_option linter.unusedSimpArgs false


/-- A number in digits of 128, all but the last one marked. -/
def rowI : Nat → Int → List Int × Int
  | 0, n => ([], n)
  | f + 1, n => if 128 ≤ n then ((n % 128 + 128) :: (rowI f (n / 128)).1, (rowI f (n / 128)).2) else ([], n)
def rowN (n : Int) : List Int := (rowI 10 n).1 ++ [(rowI 10 n).2]
theorem rowI_more : ∀ (f g : Nat) (n : Int), n < 128 ^ (f + 1) → n < 128 ^ (g + 1) → rowI f n = rowI g n
  | 0, 0, n, _, _ => rfl
  | 0, g + 1, n, h, _ => by
    have h : n < 128 := h
    rw [rowI, rowI, if_neg (by omega)]
  | f + 1, 0, n, _, h => by
    have h : n < 128 := h
    rw [rowI, rowI, if_neg (by omega)]
  | f + 1, g + 1, n, h, h' => by
    rw [rowI, rowI]
    split
    · have e : (128 : Int) ^ (f + 1 + 1) = 128 ^ (f + 1) * 128 := Int.pow_succ 128 (f + 1)
      have e' : (128 : Int) ^ (g + 1 + 1) = 128 ^ (g + 1) * 128 := Int.pow_succ 128 (g + 1)
      rw [rowI_more f g (n / 128) (by omega) (by omega)]
    · rfl
theorem rowI_len : ∀ (f : Nat) (n : Int), (rowI f n).1.length ≤ f
  | 0, _ => Nat.le_refl _
  | f + 1, n => by
    rw [rowI]
    split
    · have := rowI_len f (n / 128)
      simp only [List.length_cons]; omega
    · exact Nat.zero_le _
theorem rowI_last : ∀ (f : Nat) (n : Int), 0 ≤ n → n < 128 ^ (f + 1) → 0 ≤ (rowI f n).2 ∧ (rowI f n).2 < 128
  | 0, n, h, h' => by have h' : n < 128 := h'; exact ⟨h, h'⟩
  | f + 1, n, h, h' => by
    rw [rowI]
    have e : (128 : Int) ^ (f + 1 + 1) = 128 ^ (f + 1) * 128 := Int.pow_succ 128 (f + 1)
    split
    · exact rowI_last f (n / 128) (by omega) (by omega)
    · exact ⟨h, by omega⟩
theorem rowI_step {n : Int} (h : 128 ≤ n) (h2 : n ≤ 9223372036854775807) : rowI 10 n = ((n % 128 + 128) :: (rowI 10 (n / 128)).1, (rowI 10 (n / 128)).2) := by
  have e : (128 : Int) ^ (9 + 1) = 1180591620717411303424 := rfl
  have e2 : (128 : Int) ^ (10 + 1) = 151115727451828646838272 := rfl
  rw [rowI, if_pos h, rowI_more 9 10 (n / 128) (by rw [e]; omega) (by rw [e2]; omega)]
theorem rowN_len (n : Int) : (rowN n).length ≤ 11 := by
  have := rowI_len 10 n
  unfold rowN
  simp only [List.length_append, List.length_cons, List.length_nil]; omega
def NatI (n : Int) : Prop := 0 ≤ n ∧ n ≤ 9223372036854775807

/-! ### corsned/code.row -/
abbrev crow.L0.D := Int × Nat × (List Int)
def crow.L0.st : crow.L0.D → AS := fun (n_2, outL, n14) => ⟨([.d (.int .i64) n_2, .undef, .undef, .sref (.new 14 0) 0 [] 0 0 outL] ++ undN 16 []), [], (nilN 14 ([[.obj 0 false (.vec 5 (.int .u8) n14)]] ++ nilN 5 []))⟩
abbrev crow.L0.Y0 := Int × Nat × (List Int)  -- n, outL, n14
abbrev crow.L0.X0 := Int × Nat × (List Int)
def crow.L0.ex0 : crow.L0.X0 → Exit × AS := fun x => (.exit 0, ⟨([.d (.int .i64) x.1, .undef, .undef, .sref (.new 14 0) 0 [] 0 0 x.2.1] ++ undN 16 []), [], (nilN 14 ([[.obj 0 false (.vec 5 (.int .u8) x.2.2)]] ++ nilN 5 []))⟩)
abbrev crow.L0.X := crow.L0.X0
abbrev crow.L0.Y := crow.L0.Y0
def crow.L0.out : crow.L0.X → Out (Exit × AS) := fun x => .ok (crow.L0.ex0 x)
def crow.L0.add : crow.L0.D → crow.L0.Y → crow.L0.X := fun (n_2, outL, n14) y => y
abbrev crow.D := Int
def crow.st : crow.D → List AVal × List Ent := fun n => ([.d (.int .i64) n], [])
abbrev crow.Y := (List Int)
abbrev crow.X := (List Int)
def crow.out : crow.X → GRes := fun x => ⟨.d (.slice (.int .u8)) x, [], []⟩
def crow.add : crow.D → crow.Y → crow.X := fun n y => y


def crow.L0.Pre : crow.L0.D → Prop := fun (n, m, l) => NatI n ∧ m = l.length ∧ l.length ≤ 1000 + 0 * n.toNat ∧ l.length + (rowI 10 n).1.length ≤ 100
def crow.L0.F : crow.L0.D → crow.L0.Y := fun (n, m, l) => ((rowI 10 n).2, (l ++ (rowI 10 n).1).length, l ++ (rowI 10 n).1)
def crow.Pre : crow.D → Prop := fun n => NatI n
def crow.F : crow.D → crow.Y := fun n => rowN n

noncomputable def crow.G : Gam := gnil
noncomputable def crow.L0.E : LEntry := LEntry.of crow.L0.st crow.L0.Pre (fun d => crow.L0.add d (crow.L0.F d)) crow.L0.out
noncomputable def crow.L0.call : crow.L0.D → Option crow.L0.X := fun d => crow.L0.E.run (crow.L0.st d)
noncomputable def crow.an : Ann := {
  objs := [],
  loops := fun r => bif Nat.beq r 2 then { keep := [0, 3], sites := [14], frz := [], data := [], owns := [⟨3, [], 14, 25⟩] } else { keep := [], sites := [], frz := [], data := [], owns := [] },
  outs := fun r b => bif Nat.beq r 2 then (bif b then { keep := [2], sites := [], frz := [], data := [], owns := [] } else { keep := [0, 3], sites := [14], frz := [], data := [], owns := [] }) else { keep := [], sites := [], frz := [], data := [], owns := [] },
  sums := fun r => bif Nat.beq r 2 then some crow.L0.E else none,
  owns := [],
  trim := [],
  res := [some (.slice (.int .u8))] }
theorem crow.L0.inj : ∀ d d', crow.L0.st d = crow.L0.st d' → d = d' := fun (n_2, outL, n14) (n_2', outL', n14') hEq => by
  have e0 : n_2 = n_2' := d_inj (t := (.int .i64)) (congrArg (fun s : AS => (s.slot 0)) hEq)
  have e1 : outL = outL' := congrArg (fun s : AS => srefLen (s.slot 3)) hEq
  have e2 : n14 = n14' := vec_inj (e := 5) (t := (.int .u8)) (congrArg (fun s : AS => (entC (s.ent (.new 14 0)))) hEq)
  rw [e0, e1, e2]
theorem crow.L0.run {d : crow.L0.D} (h : crow.L0.Pre d) : crow.L0.call d = some (crow.L0.add d (crow.L0.F d)) := LEntry.of_run crow.L0.inj h
theorem crow.L0.byRounds (μ : crow.L0.D → Nat) (h : ∀ d, crow.L0.Pre d → (∃ d', crow.L0.Pre d' ∧ μ d' < μ d ∧ crow.L0.add d' (crow.L0.F d') = crow.L0.add d (crow.L0.F d) ∧ ∀ {R : Type} (kn : AS → Option R) (kx : Exit → AS → Option R), lround Tryz.prog crow.G crow.an 0 Tryz.f120 0 (crow.L0.st d) kn kx = kn (crow.L0.st d')) ∨ (∀ {R : Type} (kn : AS → Option R) (kx : Exit → AS → Option R), lround Tryz.prog crow.G crow.an 0 Tryz.f120 0 (crow.L0.st d) kn kx = kx (crow.L0.ex0 (crow.L0.add d (crow.L0.F d))).1 (crow.L0.ex0 (crow.L0.add d (crow.L0.F d))).2)) : ∀ d, crow.L0.Pre d → ∃ n, lrun Tryz.prog crow.G crow.an 0 Tryz.f120 0 n (crow.L0.st d) (fun e s => some (e, s)) = (crow.L0.out (crow.L0.add d (crow.L0.F d))).eval := lrun_one (F := fun d => crow.L0.add d (crow.L0.F d)) μ h
theorem crow.L0.step {R : Type} (n_2 : Int) (outL : Nat) (n14 : (List Int)) (kn : AS → Option R) (kx : Exit → AS → Option R) : lround Tryz.prog crow.G crow.an 0 Tryz.f120 0 (crow.L0.st (n_2, outL, n14)) kn kx =
  sel ((ige n_2 (128 : Int))) (
   sel (decide (outL ≤ (List.length n14))) (
   sel (roomA (outL + 1) 1) (
   kn (crow.L0.st ((iquo .i64 n_2 (128 : Int)), (outL + 1), ((List.take outL n14) ++ [(icv .u8 (iadd .i64 (irem n_2 (128 : Int)) (128 : Int)))])))) none) none) (
   kx (crow.L0.ex0 (n_2, outL, n14)).1 (crow.L0.ex0 (n_2, outL, n14)).2) := by kernel_rfl
theorem crow.eq {R : Type} (n : Int) (k : GRes → Option R) : arun Tryz.prog crow.G crow.an 0 Tryz.f120 (crow.st n).1 (crow.st n).2 k =
  obind (crow.L0.call (n, 0, ([] : List Int))) fun x1 =>
  sel (decide (x1.2.1 ≤ (List.length x1.2.2))) (
  sel (roomA (x1.2.1 + 1) 1) (
  sel (decide (0 = 0 ∧ (0 + (x1.2.1 + 1)) ≤ (List.length ((List.take x1.2.1 x1.2.2) ++ [(icv .u8 x1.1)])))) (
  k (crow.out (cut ((List.take x1.2.1 x1.2.2) ++ [(icv .u8 x1.1)]) 0 (x1.2.1 + 1)))) none) none) none := by kernel_rfl


theorem digit_eq {n : Int} (h : NatI n) : icv .u8 (iadd .i64 (irem n 128) 128) = n % 128 + 128 := by
  have h1 := h.1
  rw [irem_nn h.1, iadd_i64 (by omega) (by omega), icv_u8, vw_ofInt]
  omega
theorem crow.L0.ok : ∀ d, crow.L0.Pre d → ∃ n, lrun Tryz.prog crow.G crow.an 0 Tryz.f120 0 n (crow.L0.st d) (fun e s => some (e, s)) = (crow.L0.out (crow.L0.add d (crow.L0.F d))).eval := by
  refine crow.L0.byRounds (fun (n, m, l) => n.toNat) ?_
  rintro ⟨n, m, l⟩ ⟨hn, rfl, hl, hz⟩
  have hn : NatI n := hn
  have hz : l.length + (rowI 10 n).1.length ≤ 100 := hz
  have h1 := hn.1
  have h2 := hn.2
  by_cases h : 128 ≤ n
  · left
    have e := rowI_step h h2
    have hq : iquo .i64 n 128 = n / 128 := by
      rw [iquo, Int.tdiv_eq_ediv_of_nonneg h1]
      exact i64_wrap (by omega) (by omega)
    have el : ((n % 128 + 128) :: (rowI 10 (n / 128)).1).length = (rowI 10 (n / 128)).1.length + 1 := List.length_cons
    rw [e] at hz
    have hz : l.length + ((n % 128 + 128) :: (rowI 10 (n / 128)).1).length ≤ 100 := hz
    rw [el] at hz
    refine ⟨(n / 128, l.length + 1, l ++ [n % 128 + 128]), ⟨⟨by omega, by omega⟩, by rw [List.length_append]; rfl, by rw [List.length_append]; simp only [List.length_cons, List.length_nil]; omega, by rw [List.length_append]; simp only [List.length_cons, List.length_nil]; omega⟩, by simp only []; omega, ?_, fun kn kx => ?_⟩
    · simp only [crow.L0.add, crow.L0.F, e, List.append_assoc, List.cons_append, List.nil_append]
    · rw [crow.L0.step, ige_true h, digit_eq hn, hq]
      simp (disch := omega) only [↓N.lt, ↓N.le, ↓N.gt, ↓N.ge, ↓N.eq, ↓N.ne, ↓N.ib, ↓N.ic, ↓N.nn, ↓N.nz, ↓N.dc, ↓N.rm, ↓N.an, ↓N.or, ↓N.no, ↓if_pos, ↓if_neg, ↓sel_true, ↓sel_false, ↓obind_some, if_pos, if_neg, obind_some, N.aNN, N.aNL, N.aLN, N.sNN, N.sNL, N.sLN, N.mNN, N.mNL, N.mLN, N.qNN, N.qNL, N.rNN, N.rNL, N.cN, N.cL, N.tL, Int.toNat_natCast, if_true, if_false, and_self, true_and, and_true, Nat.le_refl, List.take_length]
  · right
    have e : rowI 10 n = ([], n) := by rw [rowI, if_neg h]
    intro R kn kx
    rw [crow.L0.step, ige_false h]
    simp only [sel_false, crow.L0.add, crow.L0.F, e, List.append_nil]
theorem crow.ok : ∀ d, crow.Pre d → arun Tryz.prog crow.G crow.an 0 Tryz.f120 (crow.st d).1 (crow.st d).2 some = some (crow.out (crow.add d (crow.F d))) := by
  intro n hn
  have hn : NatI n := hn
  have hl := rowI_len 10 n
  have e2 : (128 : Int) ^ (10 + 1) = 151115727451828646838272 := rfl
  have hd := rowI_last 10 n hn.1 (by have := hn.2; rw [e2]; omega)
  have p : crow.L0.Pre (n, 0, []) := ⟨hn, rfl, by simp, by simp only [List.length_nil]; omega⟩
  have hi : icv .u8 (rowI 10 n).2 = (rowI 10 n).2 := by rw [icv_u8, vw_ofInt]; omega
  rw [crow.eq, crow.L0.run p]
  simp only [obind_some, crow.L0.add, crow.L0.F, List.nil_append, hi, List.take_length, Nat.le_refl, decide_true, sel_true]
  rw [room_true (by omega) (by omega)]
  simp only [sel_true, Nat.zero_add, List.length_append, List.length_cons, List.length_nil, Nat.le_refl, and_self, decide_true]
  rw [cut_len (by rw [List.length_append]; rfl)]
  rfl

theorem crow.inj : ∀ d d', crow.st d = crow.st d' → d = d' := fun n n' hEq => by
  have e0 : n = n' := d_inj (t := (.int .i64)) (congrArg (fun s : List AVal × List Ent => (s.1.getD 0 .undef)) hEq)
  rw [e0]
noncomputable def crow.E : Entry := Entry.of [some (.int .i64)] crow.st crow.Pre (fun d => crow.add d (crow.F d)) crow.out
noncomputable def crow.call : crow.D → Option crow.X := fun d => crow.E.run (crow.st d).1 (crow.st d).2
theorem crow.run {d : crow.D} (h : crow.Pre d) : crow.call d = some (crow.add d (crow.F d)) := Entry.of_run crow.inj h
theorem crow.does : Does Tryz.prog 120 crow.E := Does.of (by kernel_rfl) (show Sound _ crow.G from Sound.nil _) (by kernel_rfl) (by kernel_rfl) (by kernel_rfl) (LOk.fn 1 (by kernel_rfl) (And.intro (LDo.of (by kernel_rfl) crow.L0.ok) trivial)) crow.ok


def putN (b : List Int) (n : Int) : List Int := if n < 0 then b else b ++ rowN n
theorem putN_len (b : List Int) (n : Int) : (putN b n).length ≤ b.length + 11 := by
  unfold putN
  have := rowN_len n
  split
  · omega
  · rw [List.length_append]; omega

/-! ### corsned/code.Put -/
abbrev cput.D := (List Int) × Int
def cput.st : cput.D → List AVal × List Ent := fun (b, n) => ([.d (.slice (.int .u8)) b, .d (.int .i64) n], [])
abbrev cput.Y := (List Int)
abbrev cput.X := (List Int)
def cput.out : cput.X → GRes := fun x => ⟨.d (.slice (.int .u8)) x, [], []⟩
def cput.add : cput.D → cput.Y → cput.X := fun (b, n) y => y


def cput.Pre : cput.D → Prop := fun (b, n) => b.length ≤ 90000000 ∧ n ≤ 9223372036854775807
def cput.F : cput.D → cput.Y := fun (b, n) => putN b n

noncomputable def cput.G : Gam := gcons 119 anyArgs claid.E (gcons 120 anyArgs crow.E (gnil))
noncomputable def cput.an : Ann := {
  objs := [],
  loops := fun r => { keep := [], sites := [], frz := [], data := [], owns := [] },
  outs := fun r b => { keep := [], sites := [], frz := [], data := [], owns := [] },
  sums := fun r => none,
  owns := [],
  trim := [],
  res := [] }
theorem cput.eq {R : Type} (b : (List Int)) (n : Int) (k : GRes → Option R) : arun Tryz.prog cput.G cput.an 0 Tryz.f69 (cput.st (b, n)).1 (cput.st (b, n)).2 k =
  sel ((ilt n (0 : Int))) (
   obind (claid.call (b, ([] : List Int))) fun x1 =>
   k (cput.out x1)) (
   obind (crow.call n) fun x2 =>
   obind (claid.call (b, x2)) fun x3 =>
   k (cput.out x3)) := by kernel_rfl


theorem cput.ok : ∀ d, cput.Pre d → arun Tryz.prog cput.G cput.an 0 Tryz.f69 (cput.st d).1 (cput.st d).2 some = some (cput.out (cput.add d (cput.F d))) := by
  rintro ⟨b, n⟩ ⟨hb, hn⟩
  have hb : b.length ≤ 90000000 := hb
  have hn : n ≤ 9223372036854775807 := hn
  rw [cput.eq]
  simp only [cput.add, cput.F, putN]
  by_cases h : n < 0
  · rw [ilt_true h, if_pos h, sel_true, claid.run (d := (b, [])) (by show b.length + ([] : List Int).length ≤ _; simp only [List.length_nil]; omega)]
    simp only [obind_some, claid.add, claid.F, List.append_nil]
  · have hl := rowN_len n
    rw [ilt_false h, if_neg h, sel_false, crow.run (d := n) ⟨by omega, hn⟩]
    simp only [obind_some, crow.add, crow.F]
    rw [claid.run (d := (b, rowN n)) (by show b.length + (rowN n).length ≤ _; omega)]
    rfl

theorem cput.inj : ∀ d d', cput.st d = cput.st d' → d = d' := fun (b, n) (b', n') hEq => by
  have e0 : b = b' := d_inj (t := (.slice (.int .u8))) (congrArg (fun s : List AVal × List Ent => (s.1.getD 0 .undef)) hEq)
  have e1 : n = n' := d_inj (t := (.int .i64)) (congrArg (fun s : List AVal × List Ent => (s.1.getD 1 .undef)) hEq)
  rw [e0, e1]
noncomputable def cput.E : Entry := Entry.of [some (.slice (.int .u8)), some (.int .i64)] cput.st cput.Pre (fun d => cput.add d (cput.F d)) cput.out
noncomputable def cput.call : cput.D → Option cput.X := fun d => cput.E.run (cput.st d).1 (cput.st d).2
theorem cput.run {d : cput.D} (h : cput.Pre d) : cput.call d = some (cput.add d (cput.F d)) := Entry.of_run cput.inj h
theorem cput.does : Does Tryz.prog 69 cput.E := Does.of (by kernel_rfl) (show Sound _ cput.G from Sound.cons claid.does (Sound.cons crow.does (Sound.nil _))) (by kernel_rfl) (by kernel_rfl) (by kernel_rfl) (LOk.fn 0 (by kernel_rfl) trivial) cput.ok

/-! ### corsned/code.PutU64 -/
abbrev cputu.D := (List Int) × Int
def cputu.st : cputu.D → List AVal × List Ent := fun (b, n) => ([.d (.slice (.int .u8)) b, .d (.int .u64) n], [])
abbrev cputu.Y := (List Int)
abbrev cputu.X := (List Int)
def cputu.out : cputu.X → GRes := fun x => ⟨.d (.slice (.int .u8)) x, [], []⟩
def cputu.add : cputu.D → cputu.Y → cputu.X := fun (b, n) y => y


def cputu.Pre : cputu.D → Prop := fun (b, n) => b.length ≤ 90000000
def cputu.F : cputu.D → cputu.Y := fun (b, n) => b ++ be8 n

noncomputable def cputu.G : Gam := gcons 119 anyArgs claid.E (gnil)
noncomputable def cputu.an : Ann := {
  objs := [],
  loops := fun r => bif Nat.beq r 3 then { keep := [0, 1, 5, 7], sites := [5, 21], frz := [], data := [], owns := [] } else { keep := [], sites := [], frz := [], data := [], owns := [] },
  outs := fun r b => bif Nat.beq r 3 then (bif b then { keep := [4], sites := [5, 21], frz := [], data := [], owns := [] } else { keep := [0, 5], sites := [5, 21], frz := [], data := [], owns := [] }) else { keep := [], sites := [], frz := [], data := [], owns := [] },
  sums := fun r => none,
  owns := [],
  trim := [],
  res := [] }
theorem cputu.eq {R : Type} (b : (List Int)) (n : Int) (k : GRes → Option R) : arun Tryz.prog cputu.G cputu.an 12 Tryz.f70 (cputu.st (b, n)).1 (cputu.st (b, n)).2 k =
  obind (claid.call (b, [(icv .u8 (ishr .u64 n (56 : Int))), (icv .u8 (ishr .u64 n (48 : Int))), (icv .u8 (ishr .u64 n (40 : Int))), (icv .u8 (ishr .u64 n (32 : Int))), (icv .u8 (ishr .u64 n (24 : Int))), (icv .u8 (ishr .u64 n (16 : Int))), (icv .u8 (ishr .u64 n (8 : Int))), (icv .u8 (ishr .u64 n (0 : Int)))])) fun x1 =>
  k (cputu.out x1) := by kernel_rfl


theorem cputu.ok : ∀ d, cputu.Pre d → arun Tryz.prog cputu.G cputu.an 12 Tryz.f70 (cputu.st d).1 (cputu.st d).2 some = some (cputu.out (cputu.add d (cputu.F d))) := by
  rintro ⟨b, n⟩ hb
  have hb : b.length ≤ 90000000 := hb
  have p : claid.Pre (b, be8 n) := by show b.length + (be8 n).length ≤ _; rw [be8_length]; omega
  have e : claid.call (b, [icv .u8 (ishr .u64 n 56), icv .u8 (ishr .u64 n 48), icv .u8 (ishr .u64 n 40), icv .u8 (ishr .u64 n 32), icv .u8 (ishr .u64 n 24), icv .u8 (ishr .u64 n 16), icv .u8 (ishr .u64 n 8), icv .u8 (ishr .u64 n 0)]) = some (b ++ be8 n) := by
    rw [be8_eq64]; exact claid.run p
  rw [cputu.eq]
  refine Eq.trans (congrArg (fun x => obind x _) e) ?_
  rfl

theorem cputu.inj : ∀ d d', cputu.st d = cputu.st d' → d = d' := fun (b, n) (b', n') hEq => by
  have e0 : b = b' := d_inj (t := (.slice (.int .u8))) (congrArg (fun s : List AVal × List Ent => (s.1.getD 0 .undef)) hEq)
  have e1 : n = n' := d_inj (t := (.int .u64)) (congrArg (fun s : List AVal × List Ent => (s.1.getD 1 .undef)) hEq)
  rw [e0, e1]
noncomputable def cputu.E : Entry := Entry.of [some (.slice (.int .u8)), some (.int .u64)] cputu.st cputu.Pre (fun d => cputu.add d (cputu.F d)) cputu.out
noncomputable def cputu.call : cputu.D → Option cputu.X := fun d => cputu.E.run (cputu.st d).1 (cputu.st d).2
theorem cputu.run {d : cputu.D} (h : cputu.Pre d) : cputu.call d = some (cputu.add d (cputu.F d)) := Entry.of_run cputu.inj h
theorem cputu.does : Does Tryz.prog 70 cputu.E := Does.of (by kernel_rfl) (show Sound _ cputu.G from Sound.cons claid.does (Sound.nil _)) (by kernel_rfl) (by kernel_rfl) (by kernel_rfl) (LOk.fn 1 (by kernel_rfl) (And.intro (LDo.none (by kernel_rfl)) trivial)) cputu.ok

end Go.Ab
namespace Go.Ab
open Go.Proofs
set_option maxRecDepth 100000
set_option linter.unusedVariables false
set_option linter.unusedSimpArgs false

/-! ### corsned/corsnedlaw12.few -/
abbrev lfew.L0.D := ((List ((List Int) × (Int × (Int × (Int × Unit))))) × Unit) × Int
def lfew.L0.st : lfew.L0.D → AS := fun (l_2, i) => ⟨([.undef, .rptr (.pair (.slice (.pair (.slice (.int .u64)) (.pair (.int .i64) (.pair (.int .i64) (.pair (.int .u64) .unit))))) .unit) l_2, .undef, .d (.int .i64) i] ++ undN 23 []), [], (List.replicate 27 [])⟩
abbrev lfew.L0.Y0 := Unit
abbrev lfew.L0.X0 := Unit
def lfew.L0.ex0 : lfew.L0.X0 → Exit × AS := fun x => (.ret, ⟨([.undef, .undef, .d .bool false] ++ undN 24 []), [], (List.replicate 27 [])⟩)
abbrev lfew.L0.Y1 := Unit
abbrev lfew.L0.X1 := ((List ((List Int) × (Int × (Int × (Int × Unit))))) × Unit)
def lfew.L0.ex1 : lfew.L0.X1 → Exit × AS := fun x => (.exit 0, ⟨([.undef, .rptr (.pair (.slice (.pair (.slice (.int .u64)) (.pair (.int .i64) (.pair (.int .i64) (.pair (.int .u64) .unit))))) .unit) x] ++ undN 25 []), [], (List.replicate 27 [])⟩)
abbrev lfew.L0.X := (lfew.L0.X0) ⊕ (lfew.L0.X1)
abbrev lfew.L0.Y := (lfew.L0.Y0) ⊕ (lfew.L0.Y1)
def lfew.L0.out : lfew.L0.X → Out (Exit × AS) := fun x => .br x.isLeft (.get x.getLeft? fun a => .ok (lfew.L0.ex0 a)) (.get x.getRight? fun b => .ok (lfew.L0.ex1 b))
def lfew.L0.add : lfew.L0.D → lfew.L0.Y → lfew.L0.X := fun (l_2, i) y => match y with | .inl y => .inl y | .inr z => .inr (l_2)
abbrev lfew.D := ((List ((List Int) × (Int × (Int × (Int × Unit))))) × Unit)
def lfew.st : lfew.D → List AVal × List Ent := fun l => ([.d (.pair (.slice (.pair (.slice (.int .u64)) (.pair (.int .i64) (.pair (.int .i64) (.pair (.int .u64) .unit))))) .unit) l], [])
abbrev lfew.Y := Bool
abbrev lfew.X := Bool
def lfew.out : lfew.X → GRes := fun x => ⟨.d .bool x, [], []⟩
def lfew.add : lfew.D → lfew.Y → lfew.X := fun l y => y


def fewKeys (bs : List Brn) : Bool := bs.all fun b => decide (b.1.length ≤ 20)
def fewL (l : Lk) : Bool := fewKeys (l.1.take 7) && decide (l.1.length ≤ 6)
def lfew.L0.Pre : lfew.L0.D → Prop := fun (l, i) => ∃ k : Nat, k ≤ l.1.length ∧ k ≤ 7 ∧ i = k
def lfew.L0.F : lfew.L0.D → lfew.L0.Y := fun (l, i) => if fewKeys ((l.1.take 7).drop i.toNat) then .inr () else .inl ()
def lfew.Pre : lfew.D → Prop := fun _ => True
def lfew.F : lfew.D → lfew.Y := fun l => fewL l

noncomputable def lfew.G : Gam := gnil
noncomputable def lfew.L0.E : LEntry := LEntry.of lfew.L0.st lfew.L0.Pre (fun d => lfew.L0.add d (lfew.L0.F d)) lfew.L0.out
noncomputable def lfew.L0.call : lfew.L0.D → Option lfew.L0.X := fun d => lfew.L0.E.run (lfew.L0.st d)
noncomputable def lfew.an : Ann := {
  objs := [],
  loops := fun r => bif Nat.beq r 2 then { keep := [1, 3], sites := [], frz := [], data := [], owns := [] } else { keep := [], sites := [], frz := [], data := [], owns := [] },
  outs := fun r b => bif Nat.beq r 2 then (bif b then { keep := [2], sites := [], frz := [], data := [], owns := [] } else { keep := [1], sites := [], frz := [], data := [], owns := [] }) else { keep := [], sites := [], frz := [], data := [], owns := [] },
  sums := fun r => bif Nat.beq r 2 then some lfew.L0.E else none,
  owns := [],
  trim := [],
  res := [] }
theorem lfew.L0.inj : ∀ d d', lfew.L0.st d = lfew.L0.st d' → d = d' := fun (l_2, i) (l_2', i') hEq => by
  have e0 : l_2 = l_2' := rptr_inj (t := (.pair (.slice (.pair (.slice (.int .u64)) (.pair (.int .i64) (.pair (.int .i64) (.pair (.int .u64) .unit))))) .unit)) (congrArg (fun s : AS => (s.slot 1)) hEq)
  have e1 : i = i' := d_inj (t := (.int .i64)) (congrArg (fun s : AS => (s.slot 3)) hEq)
  rw [e0, e1]
theorem lfew.L0.run {d : lfew.L0.D} (h : lfew.L0.Pre d) : lfew.L0.call d = some (lfew.L0.add d (lfew.L0.F d)) := LEntry.of_run lfew.L0.inj h
theorem lfew.L0.byRounds (μ : lfew.L0.D → Nat) (h : ∀ d, lfew.L0.Pre d → (∃ d', lfew.L0.Pre d' ∧ μ d' < μ d ∧ lfew.L0.add d' (lfew.L0.F d') = lfew.L0.add d (lfew.L0.F d) ∧ ∀ {R : Type} (kn : AS → Option R) (kx : Exit → AS → Option R), lround Tryz.prog lfew.G lfew.an 0 Tryz.f10 0 (lfew.L0.st d) kn kx = kn (lfew.L0.st d')) ∨ (∃ r, (lfew.L0.out (lfew.L0.add d (lfew.L0.F d))).eval = some r ∧ ∀ {R : Type} (kn : AS → Option R) (kx : Exit → AS → Option R), lround Tryz.prog lfew.G lfew.an 0 Tryz.f10 0 (lfew.L0.st d) kn kx = kx r.1 r.2)) : ∀ d, lfew.L0.Pre d → ∃ n, lrun Tryz.prog lfew.G lfew.an 0 Tryz.f10 0 n (lfew.L0.st d) (fun e s => some (e, s)) = (lfew.L0.out (lfew.L0.add d (lfew.L0.F d))).eval := lrun_of (F := fun d => lfew.L0.add d (lfew.L0.F d)) (out := lfew.L0.out) μ h
theorem lfew.L0.step {R : Type} (l_2 : ((List ((List Int) × (Int × (Int × (Int × Unit))))) × Unit)) (i : Int) (kn : AS → Option R) (kx : Exit → AS → Option R) : lround Tryz.prog lfew.G lfew.an 0 Tryz.f10 0 (lfew.L0.st (l_2, i)) kn kx =
  sel ((ilt i (((List.length l_2.1) : Nat) : Int))) (
   sel ((ilt i (7 : Int))) (
    sel (inb i (((List.length l_2.1) : Nat) : Int)) (
    sel ((igt (((List.length (nth (.pair (.slice (.int .u64)) (.pair (.int .i64) (.pair (.int .i64) (.pair (.int .u64) .unit)))) l_2.1 (Int.toNat i)).1) : Nat) : Int) (20 : Int))) (
     kx (lfew.L0.ex0 ()).1 (lfew.L0.ex0 ()).2) (
     kn (lfew.L0.st (l_2, (iadd .i64 i (1 : Int)))))) none) (
    kx (lfew.L0.ex1 l_2).1 (lfew.L0.ex1 l_2).2)) (
   kx (lfew.L0.ex1 l_2).1 (lfew.L0.ex1 l_2).2) := by kernel_rfl
theorem lfew.eq {R : Type} (l : ((List ((List Int) × (Int × (Int × (Int × Unit))))) × Unit)) (k : GRes → Option R) : arun Tryz.prog lfew.G lfew.an 0 Tryz.f10 (lfew.st l).1 (lfew.st l).2 k =
  obind (lfew.L0.call (l, (0 : Int))) fun x1 =>
  sel (x1.isLeft) (
   obind (x1.getLeft?) fun a2 =>
   k (lfew.out false)) (
   obind (x1.getRight?) fun b3 =>
   k (lfew.out (ile (((List.length b3.1) : Nat) : Int) (6 : Int)))) := by kernel_rfl


theorem lfew.L0.ok : ∀ d, lfew.L0.Pre d → ∃ n, lrun Tryz.prog lfew.G lfew.an 0 Tryz.f10 0 n (lfew.L0.st d) (fun e s => some (e, s)) = (lfew.L0.out (lfew.L0.add d (lfew.L0.F d))).eval := by
  refine lfew.L0.byRounds (fun (l, i) => 7 - i.toNat) ?_
  rintro ⟨l, i⟩ ⟨k, hk, hk7, rfl⟩
  have hk : k ≤ l.1.length := hk
  have hk7 : k ≤ 7 := hk7
  by_cases h : k < l.1.length ∧ k < 7
  · obtain ⟨h, h7⟩ := h
    have ht : k < (l.1.take 7).length := by rw [List.length_take]; omega
    have n1 : nth (.pair (.slice (.int .u64)) (.pair (.int .i64) (.pair (.int .i64) (.pair (.int .u64) .unit)))) l.1 k = l.1[k] := nth_lt (t := (.pair (.slice (.int .u64)) (.pair (.int .i64) (.pair (.int .i64) (.pair (.int .u64) .unit))))) h
    have hg : (l.1.take 7)[k] = l.1[k] := List.getElem_take
    have hd : fewKeys ((l.1.take 7).drop k) = (decide (l.1[k].1.length ≤ 20) && fewKeys ((l.1.take 7).drop (k + 1))) := by
      unfold fewKeys
      rw [List.drop_eq_getElem_cons ht, List.all_cons, hg]
    have step : ∀ {R : Type} (kn : AS → Option R) (kx : Exit → AS → Option R), lround Tryz.prog lfew.G lfew.an 0 Tryz.f10 0 (lfew.L0.st (l, (k : Int))) kn kx = sel (decide (l.1[k].1.length ≤ 20)) (kn (lfew.L0.st (l, ((k + 1 : Nat) : Int)))) (kx (lfew.L0.ex0 ()).1 (lfew.L0.ex0 ()).2) := by
      intro R kn kx
      rw [lfew.L0.step, ilt_true (by omega), ilt_true (by omega), inb_true (by omega) (by omega), Int.toNat_natCast, n1, N.aNL (by omega)]
      simp only [sel_true]
      by_cases hc : l.1[k].1.length ≤ 20
      · rw [igt_false (by omega), dec_true hc]; rfl
      · rw [igt_true (by omega), dec_false hc]; rfl
    cases hp : decide (l.1[k].1.length ≤ 20)
    · right
      refine ⟨lfew.L0.ex0 (), ?_, fun kn kx => ?_⟩
      · simp only [lfew.L0.add, lfew.L0.F, Int.toNat_natCast, hd, hp, Bool.false_and, Bool.false_eq_true, if_false]
        rfl
      · rw [step, hp, sel_false]
    · left
      refine ⟨(l, ((k + 1 : Nat) : Int)), ⟨k + 1, by omega, by omega, rfl⟩, by simp only [Int.toNat_natCast]; omega, ?_, fun kn kx => ?_⟩
      · simp only [lfew.L0.add, lfew.L0.F, Int.toNat_natCast, hd, hp, Bool.true_and]
      · rw [step, hp, sel_true]
  · right
    have ht : (l.1.take 7).length ≤ k := by rw [List.length_take]; omega
    refine ⟨lfew.L0.ex1 l, ?_, fun kn kx => ?_⟩
    · simp only [lfew.L0.add, lfew.L0.F, Int.toNat_natCast, List.drop_of_length_le ht]
      rfl
    · rw [lfew.L0.step]
      by_cases h1 : k < l.1.length
      · rw [ilt_true (by omega), ilt_false (by omega)]; rfl
      · rw [ilt_false (by omega)]; rfl
theorem lfew.ok : ∀ d, lfew.Pre d → arun Tryz.prog lfew.G lfew.an 0 Tryz.f10 (lfew.st d).1 (lfew.st d).2 some = some (lfew.out (lfew.add d (lfew.F d))) := by
  intro l _
  rw [lfew.eq, lfew.L0.run (d := (l, 0)) ⟨0, by omega, by omega, rfl⟩]
  simp only [obind_some, lfew.L0.add, lfew.L0.F, Int.toNat_zero, List.drop_zero, lfew.add, lfew.F, fewL]
  cases fewKeys (l.1.take 7)
  · rfl
  · simp only [if_true, Bool.true_and]
    show some (lfew.out (ile _ _)) = _
    by_cases h : l.1.length ≤ 6
    · rw [ile_true (by omega), dec_true h]
    · rw [ile_false (by omega), dec_false h]

theorem lfew.inj : ∀ d d', lfew.st d = lfew.st d' → d = d' := fun l l' hEq => by
  have e0 : l = l' := d_inj (t := (.pair (.slice (.pair (.slice (.int .u64)) (.pair (.int .i64) (.pair (.int .i64) (.pair (.int .u64) .unit))))) .unit)) (congrArg (fun s : List AVal × List Ent => (s.1.getD 0 .undef)) hEq)
  rw [e0]
noncomputable def lfew.E : Entry := Entry.of [some (.pair (.slice (.pair (.slice (.int .u64)) (.pair (.int .i64) (.pair (.int .i64) (.pair (.int .u64) .unit))))) .unit)] lfew.st lfew.Pre (fun d => lfew.add d (lfew.F d)) lfew.out
noncomputable def lfew.call : lfew.D → Option lfew.X := fun d => lfew.E.run (lfew.st d).1 (lfew.st d).2
theorem lfew.run {d : lfew.D} (h : lfew.Pre d) : lfew.call d = some (lfew.add d (lfew.F d)) := Entry.of_run lfew.inj h
theorem lfew.does : Does Tryz.prog 10 lfew.E := Does.of (by kernel_rfl) (show Sound _ lfew.G from Sound.nil _) (by kernel_rfl) (by kernel_rfl) (by kernel_rfl) (LOk.fn 1 (by kernel_rfl) (And.intro (LDo.of (by kernel_rfl) lfew.L0.ok) trivial)) lfew.ok

end Go.Ab
namespace Go.Ab
open Go.Proofs
set_option maxRecDepth 100000
set_option linter.unusedVariables false
set_option linter.unusedSimpArgs false


/-- A branch's bytes behind others; a lock's bytes. -/
def keysB (o : List Int) (ks : List Int) : List Int := ks.foldl (fun o p => o ++ be8 p) o
def brB (o : List Int) (b : Brn) : List Int := putN (putN (keysB (putN o b.1.length) b.1) b.2.1) b.2.2.1 ++ be8 b.2.2.2.1
def lkB (l : Lk) : List Int := if lkOk l then l.1.foldl brB (putN [] l.1.length) else []
theorem keysB_len : ∀ (ks : List Int) (o : List Int), (keysB o ks).length = o.length + 8 * ks.length
  | [], o => rfl
  | k :: ks, o => by
    show (keysB (o ++ be8 k) ks).length = _
    rw [keysB_len ks, List.length_append, be8_length, List.length_cons]; omega
theorem brB_len (o : List Int) (b : Brn) (h : b.1.length ≤ 12) : (brB o b).length ≤ o.length + 200 := by
  unfold brB
  have h1 := putN_len o b.1.length
  have h2 := keysB_len b.1 (putN o b.1.length)
  have h3 := putN_len (keysB (putN o b.1.length) b.1) b.2.1
  have h4 := putN_len (putN (keysB (putN o b.1.length) b.1) b.2.1) b.2.2.1
  rw [List.length_append, be8_length]; omega
/-- Numbers of 64 bits with a sign. -/
def I64s (n : Int) : Prop := n ≤ 9223372036854775807
def BrI (b : Brn) : Prop := b.1.length ≤ 12 ∧ I64s b.2.1 ∧ I64s b.2.2.1
theorem brOk_i {b : Brn} (h : brOk b = true) : BrI b := by
  unfold brOk htOk at h
  simp only [Bool.and_eq_true, decide_eq_true_eq] at h
  obtain ⟨h1, _, h2, h3, _⟩ := h
  exact ⟨h1, by unfold I64s; omega, by unfold I64s; omega⟩
theorem keysB_drop (o : List Int) (ks : List Int) (k : Nat) (h : k < ks.length) : keysB o (ks.drop k) = keysB (o ++ be8 ks[k]) (ks.drop (k + 1)) := by rw [List.drop_eq_getElem_cons h]; rfl

/-! ### corsned/lock.Bytes -/
abbrev lbytes.L0.D := (List Int) × (List ((List Int) × (Int × (Int × (Int × Unit))))) × Int × Int
def lbytes.L0.st : lbytes.L0.D → AS := fun (outv, t16, t17, t18) => ⟨([.undef, .undef, .undef, .d (.slice (.int .u8)) outv] ++ undN 12 ([.d (.slice (.pair (.slice (.int .u64)) (.pair (.int .i64) (.pair (.int .i64) (.pair (.int .u64) .unit))))) t16, .d (.int .i64) t17, .d (.int .i64) t18] ++ undN 31 [])), [], (List.replicate 50 [])⟩
abbrev lbytes.L0.Y0 := (List Int)  -- out
abbrev lbytes.L0.X0 := (List Int)
def lbytes.L0.ex0 : lbytes.L0.X0 → Exit × AS := fun x => (.exit 0, ⟨([.undef, .undef, .undef, .d (.slice (.int .u8)) x] ++ undN 46 []), [], (List.replicate 50 [])⟩)
abbrev lbytes.L0.X := lbytes.L0.X0
abbrev lbytes.L0.Y := lbytes.L0.Y0
def lbytes.L0.out : lbytes.L0.X → Out (Exit × AS) := fun x => .ok (lbytes.L0.ex0 x)
def lbytes.L0.add : lbytes.L0.D → lbytes.L0.Y → lbytes.L0.X := fun (outv, t16, t17, t18) y => y
abbrev lbytes.L1.D := (List Int) × (List ((List Int) × (Int × (Int × (Int × Unit))))) × Int × Int × (List Int) × Int × Int × ((List Int) × (Int × (Int × (Int × Unit))))
def lbytes.L1.st : lbytes.L1.D → AS := fun (outv_2, t16_2, t17_2, t18_2, t28, t29, t30, n5) => ⟨([.undef, .undef, .undef, .d (.slice (.int .u8)) outv_2, .undef, .ptr (.new 5 0) 0 [] 0] ++ undN 10 ([.d (.slice (.pair (.slice (.int .u64)) (.pair (.int .i64) (.pair (.int .i64) (.pair (.int .u64) .unit))))) t16_2, .d (.int .i64) t17_2, .d (.int .i64) t18_2] ++ undN 9 ([.d (.slice (.int .u64)) t28, .d (.int .i64) t29, .d (.int .i64) t30] ++ undN 19 []))), [], (nilN 5 ([[.obj 0 false (.d (.pair (.slice (.int .u64)) (.pair (.int .i64) (.pair (.int .i64) (.pair (.int .u64) .unit)))) n5)]] ++ nilN 44 []))⟩
abbrev lbytes.L1.Y0 := (List Int)  -- out
abbrev lbytes.L1.X0 := ((List ((List Int) × (Int × (Int × (Int × Unit))))) × Int × Int × ((List Int) × (Int × (Int × (Int × Unit))))) × ((List Int))
def lbytes.L1.ex0 : lbytes.L1.X0 → Exit × AS := fun x => (.exit 2, ⟨([.undef, .undef, .undef, .d (.slice (.int .u8)) x.2, .undef, .ptr (.new 5 0) 0 [] 0] ++ undN 10 ([.d (.slice (.pair (.slice (.int .u64)) (.pair (.int .i64) (.pair (.int .i64) (.pair (.int .u64) .unit))))) x.1.1, .d (.int .i64) x.1.2.1, .d (.int .i64) x.1.2.2.1] ++ undN 31 [])), [], (nilN 5 ([[.obj 0 false (.d (.pair (.slice (.int .u64)) (.pair (.int .i64) (.pair (.int .i64) (.pair (.int .u64) .unit)))) x.1.2.2.2)]] ++ nilN 44 []))⟩)
abbrev lbytes.L1.X := lbytes.L1.X0
abbrev lbytes.L1.Y := lbytes.L1.Y0
def lbytes.L1.out : lbytes.L1.X → Out (Exit × AS) := fun x => .ok (lbytes.L1.ex0 x)
def lbytes.L1.add : lbytes.L1.D → lbytes.L1.Y → lbytes.L1.X := fun (outv_2, t16_2, t17_2, t18_2, t28, t29, t30, n5) y => ((t16_2, t17_2, t18_2, n5), y)
abbrev lbytes.D := ((List ((List Int) × (Int × (Int × (Int × Unit))))) × Unit)
def lbytes.st : lbytes.D → List AVal × List Ent := fun l => ([.d (.pair (.slice (.pair (.slice (.int .u64)) (.pair (.int .i64) (.pair (.int .i64) (.pair (.int .u64) .unit))))) .unit) l], [])
abbrev lbytes.Y := (List Int)
abbrev lbytes.X := (List Int)
def lbytes.out : lbytes.X → GRes := fun x => ⟨.d (.slice (.int .u8)) x, [], []⟩
def lbytes.add : lbytes.D → lbytes.Y → lbytes.X := fun l y => y


def lbytes.L1.Pre : lbytes.L1.D → Prop := fun (o, bs, n, i, ks, m, j, b) => ks.length ≤ 12 ∧ o.length + 8 * ks.length ≤ 80000000 + 8 * j.toNat ∧ m = ks.length ∧ ∃ k : Nat, k ≤ ks.length ∧ j = k
def lbytes.L1.F : lbytes.L1.D → lbytes.L1.Y := fun (o, bs, n, i, ks, m, j, b) => keysB o (ks.drop j.toNat)
def lbytes.L0.Pre : lbytes.L0.D → Prop := fun (o, bs, n, i) => (∀ b ∈ bs, BrI b) ∧ bs.length ≤ 4 ∧ o.length ≤ 1000 + 200 * i.toNat ∧ n = bs.length ∧ ∃ k : Nat, k ≤ bs.length ∧ i = k
def lbytes.L0.F : lbytes.L0.D → lbytes.L0.Y := fun (o, bs, n, i) => (bs.drop i.toNat).foldl brB o
def lbytes.Pre : lbytes.D → Prop := fun l => LkU l ∧ l.1.length ≤ 1000000000
def lbytes.F : lbytes.D → lbytes.Y := fun l => lkB l

noncomputable def lbytes.G : Gam := gcons 13 anyArgs lright.E (gcons 69 anyArgs cput.E (gcons 70 anyArgs cputu.E (gnil)))
noncomputable def lbytes.L0.E : LEntry := LEntry.of lbytes.L0.st lbytes.L0.Pre (fun d => lbytes.L0.add d (lbytes.L0.F d)) lbytes.L0.out
noncomputable def lbytes.L0.call : lbytes.L0.D → Option lbytes.L0.X := fun d => lbytes.L0.E.run (lbytes.L0.st d)
noncomputable def lbytes.L1.E : LEntry := LEntry.of lbytes.L1.st lbytes.L1.Pre (fun d => lbytes.L1.add d (lbytes.L1.F d)) lbytes.L1.out
noncomputable def lbytes.L1.call : lbytes.L1.D → Option lbytes.L1.X := fun d => lbytes.L1.E.run (lbytes.L1.st d)
noncomputable def lbytes.an : Ann := {
  objs := [],
  loops := fun r => bif Nat.beq r 5 then { keep := [3, 16, 17, 18], sites := [], frz := [], data := [], owns := [] } else bif Nat.beq r 9 then { keep := [3, 5, 16, 17, 18, 28, 29, 30], sites := [5], frz := [], data := [], owns := [] } else { keep := [], sites := [], frz := [], data := [], owns := [] },
  outs := fun r b => bif Nat.beq r 5 then (bif b then { keep := [2], sites := [], frz := [], data := [], owns := [] } else { keep := [3], sites := [], frz := [], data := [], owns := [] }) else bif Nat.beq r 9 then (bif b then { keep := [2], sites := [], frz := [], data := [], owns := [] } else { keep := [3, 5, 16, 17, 18], sites := [5], frz := [], data := [], owns := [] }) else { keep := [], sites := [], frz := [], data := [], owns := [] },
  sums := fun r => bif Nat.beq r 5 then some lbytes.L0.E else bif Nat.beq r 9 then some lbytes.L1.E else none,
  owns := [],
  trim := [],
  res := [some (.slice (.int .u8))] }
theorem lbytes.L0.inj : ∀ d d', lbytes.L0.st d = lbytes.L0.st d' → d = d' := fun (outv, t16, t17, t18) (outv', t16', t17', t18') hEq => by
  have e0 : outv = outv' := d_inj (t := (.slice (.int .u8))) (congrArg (fun s : AS => (s.slot 3)) hEq)
  have e1 : t16 = t16' := d_inj (t := (.slice (.pair (.slice (.int .u64)) (.pair (.int .i64) (.pair (.int .i64) (.pair (.int .u64) .unit)))))) (congrArg (fun s : AS => (s.slot 16)) hEq)
  have e2 : t17 = t17' := d_inj (t := (.int .i64)) (congrArg (fun s : AS => (s.slot 17)) hEq)
  have e3 : t18 = t18' := d_inj (t := (.int .i64)) (congrArg (fun s : AS => (s.slot 18)) hEq)
  rw [e0, e1, e2, e3]
theorem lbytes.L0.run {d : lbytes.L0.D} (h : lbytes.L0.Pre d) : lbytes.L0.call d = some (lbytes.L0.add d (lbytes.L0.F d)) := LEntry.of_run lbytes.L0.inj h
theorem lbytes.L0.byRounds (μ : lbytes.L0.D → Nat) (h : ∀ d, lbytes.L0.Pre d → (∃ d', lbytes.L0.Pre d' ∧ μ d' < μ d ∧ lbytes.L0.add d' (lbytes.L0.F d') = lbytes.L0.add d (lbytes.L0.F d) ∧ ∀ {R : Type} (kn : AS → Option R) (kx : Exit → AS → Option R), lround Tryz.prog lbytes.G lbytes.an 0 Tryz.f17 0 (lbytes.L0.st d) kn kx = kn (lbytes.L0.st d')) ∨ (∀ {R : Type} (kn : AS → Option R) (kx : Exit → AS → Option R), lround Tryz.prog lbytes.G lbytes.an 0 Tryz.f17 0 (lbytes.L0.st d) kn kx = kx (lbytes.L0.ex0 (lbytes.L0.add d (lbytes.L0.F d))).1 (lbytes.L0.ex0 (lbytes.L0.add d (lbytes.L0.F d))).2)) : ∀ d, lbytes.L0.Pre d → ∃ n, lrun Tryz.prog lbytes.G lbytes.an 0 Tryz.f17 0 n (lbytes.L0.st d) (fun e s => some (e, s)) = (lbytes.L0.out (lbytes.L0.add d (lbytes.L0.F d))).eval := lrun_one (F := fun d => lbytes.L0.add d (lbytes.L0.F d)) μ h
theorem lbytes.L0.step {R : Type} (outv : (List Int)) (t16 : (List ((List Int) × (Int × (Int × (Int × Unit)))))) (t17 : Int) (t18 : Int) (kn : AS → Option R) (kx : Exit → AS → Option R) : lround Tryz.prog lbytes.G lbytes.an 0 Tryz.f17 0 (lbytes.L0.st (outv, t16, t17, t18)) kn kx =
  sel ((ilt t18 t17)) (
   sel (inb t18 (((List.length t16) : Nat) : Int)) (
   obind (cput.call (outv, (((List.length (nth (.pair (.slice (.int .u64)) (.pair (.int .i64) (.pair (.int .i64) (.pair (.int .u64) .unit)))) t16 (Int.toNat t18)).1) : Nat) : Int))) fun x1 =>
   obind (lbytes.L1.call (x1, t16, t17, t18, (nth (.pair (.slice (.int .u64)) (.pair (.int .i64) (.pair (.int .i64) (.pair (.int .u64) .unit)))) t16 (Int.toNat t18)).1, (((List.length (nth (.pair (.slice (.int .u64)) (.pair (.int .i64) (.pair (.int .i64) (.pair (.int .u64) .unit)))) t16 (Int.toNat t18)).1) : Nat) : Int), (0 : Int), (nth (.pair (.slice (.int .u64)) (.pair (.int .i64) (.pair (.int .i64) (.pair (.int .u64) .unit)))) t16 (Int.toNat t18)))) fun x2 =>
   obind (cput.call (x2.2, x2.1.2.2.2.2.1)) fun x3 =>
   obind (cput.call (x3, x2.1.2.2.2.2.2.1)) fun x4 =>
   obind (cputu.call (x4, x2.1.2.2.2.2.2.2.1)) fun x5 =>
   kn (lbytes.L0.st (x5, x2.1.1, x2.1.2.1, (iadd .i64 x2.1.2.2.1 (1 : Int))))) none) (
   kx (lbytes.L0.ex0 outv).1 (lbytes.L0.ex0 outv).2) := by kernel_rfl
theorem lbytes.L1.inj : ∀ d d', lbytes.L1.st d = lbytes.L1.st d' → d = d' := fun (outv_2, t16_2, t17_2, t18_2, t28, t29, t30, n5) (outv_2', t16_2', t17_2', t18_2', t28', t29', t30', n5') hEq => by
  have e0 : outv_2 = outv_2' := d_inj (t := (.slice (.int .u8))) (congrArg (fun s : AS => (s.slot 3)) hEq)
  have e1 : t16_2 = t16_2' := d_inj (t := (.slice (.pair (.slice (.int .u64)) (.pair (.int .i64) (.pair (.int .i64) (.pair (.int .u64) .unit)))))) (congrArg (fun s : AS => (s.slot 16)) hEq)
  have e2 : t17_2 = t17_2' := d_inj (t := (.int .i64)) (congrArg (fun s : AS => (s.slot 17)) hEq)
  have e3 : t18_2 = t18_2' := d_inj (t := (.int .i64)) (congrArg (fun s : AS => (s.slot 18)) hEq)
  have e4 : t28 = t28' := d_inj (t := (.slice (.int .u64))) (congrArg (fun s : AS => (s.slot 28)) hEq)
  have e5 : t29 = t29' := d_inj (t := (.int .i64)) (congrArg (fun s : AS => (s.slot 29)) hEq)
  have e6 : t30 = t30' := d_inj (t := (.int .i64)) (congrArg (fun s : AS => (s.slot 30)) hEq)
  have e7 : n5 = n5' := d_inj (t := (.pair (.slice (.int .u64)) (.pair (.int .i64) (.pair (.int .i64) (.pair (.int .u64) .unit))))) (congrArg (fun s : AS => (entC (s.ent (.new 5 0)))) hEq)
  rw [e0, e1, e2, e3, e4, e5, e6, e7]
theorem lbytes.L1.run {d : lbytes.L1.D} (h : lbytes.L1.Pre d) : lbytes.L1.call d = some (lbytes.L1.add d (lbytes.L1.F d)) := LEntry.of_run lbytes.L1.inj h
theorem lbytes.L1.byRounds (μ : lbytes.L1.D → Nat) (h : ∀ d, lbytes.L1.Pre d → (∃ d', lbytes.L1.Pre d' ∧ μ d' < μ d ∧ lbytes.L1.add d' (lbytes.L1.F d') = lbytes.L1.add d (lbytes.L1.F d) ∧ ∀ {R : Type} (kn : AS → Option R) (kx : Exit → AS → Option R), lround Tryz.prog lbytes.G lbytes.an 0 Tryz.f17 1 (lbytes.L1.st d) kn kx = kn (lbytes.L1.st d')) ∨ (∀ {R : Type} (kn : AS → Option R) (kx : Exit → AS → Option R), lround Tryz.prog lbytes.G lbytes.an 0 Tryz.f17 1 (lbytes.L1.st d) kn kx = kx (lbytes.L1.ex0 (lbytes.L1.add d (lbytes.L1.F d))).1 (lbytes.L1.ex0 (lbytes.L1.add d (lbytes.L1.F d))).2)) : ∀ d, lbytes.L1.Pre d → ∃ n, lrun Tryz.prog lbytes.G lbytes.an 0 Tryz.f17 1 n (lbytes.L1.st d) (fun e s => some (e, s)) = (lbytes.L1.out (lbytes.L1.add d (lbytes.L1.F d))).eval := lrun_one (F := fun d => lbytes.L1.add d (lbytes.L1.F d)) μ h
theorem lbytes.L1.step {R : Type} (outv_2 : (List Int)) (t16_2 : (List ((List Int) × (Int × (Int × (Int × Unit)))))) (t17_2 : Int) (t18_2 : Int) (t28 : (List Int)) (t29 : Int) (t30 : Int) (n5 : ((List Int) × (Int × (Int × (Int × Unit))))) (kn : AS → Option R) (kx : Exit → AS → Option R) : lround Tryz.prog lbytes.G lbytes.an 0 Tryz.f17 1 (lbytes.L1.st (outv_2, t16_2, t17_2, t18_2, t28, t29, t30, n5)) kn kx =
  sel ((ilt t30 t29)) (
   sel (inb t30 (((List.length t28) : Nat) : Int)) (
   obind (cputu.call (outv_2, (nth (.int .u64) t28 (Int.toNat t30)))) fun x1 =>
   kn (lbytes.L1.st (x1, t16_2, t17_2, t18_2, t28, t29, (iadd .i64 t30 (1 : Int)), n5))) none) (
   kx (lbytes.L1.ex0 ((t16_2, t17_2, t18_2, n5), outv_2)).1 (lbytes.L1.ex0 ((t16_2, t17_2, t18_2, n5), outv_2)).2) := by kernel_rfl
theorem lbytes.eq {R : Type} (l : ((List ((List Int) × (Int × (Int × (Int × Unit))))) × Unit)) (k : GRes → Option R) : arun Tryz.prog lbytes.G lbytes.an 0 Tryz.f17 (lbytes.st l).1 (lbytes.st l).2 k =
  obind (lright.call l) fun x1 =>
  sel ((!x1)) (
   k (lbytes.out ([] : List Int))) (
   obind (cput.call (([] : List Int), (((List.length l.1) : Nat) : Int))) fun x2 =>
   obind (lbytes.L0.call (x2, l.1, (((List.length l.1) : Nat) : Int), (0 : Int))) fun x9 =>
   k (lbytes.out x9)) := by kernel_rfl


theorem lbytes.L1.ok : ∀ d, lbytes.L1.Pre d → ∃ n, lrun Tryz.prog lbytes.G lbytes.an 0 Tryz.f17 1 n (lbytes.L1.st d) (fun e s => some (e, s)) = (lbytes.L1.out (lbytes.L1.add d (lbytes.L1.F d))).eval := by
  refine lbytes.L1.byRounds (fun (o, bs, n, i, ks, m, j, b) => ks.length - j.toNat) ?_
  rintro ⟨o, bs, n, i, ks, m, j, b⟩ ⟨hk12, hl, rfl, k, hk, rfl⟩
  have hk12 : ks.length ≤ 12 := hk12
  have hk : k ≤ ks.length := hk
  have hl : o.length + 8 * ks.length ≤ 80000000 + 8 * (k : Int).toNat := hl
  rw [Int.toNat_natCast] at hl
  by_cases h : k < ks.length
  · left
    have n1 : nth (.int .u64) ks k = ks[k] := nth_lt (t := .int .u64) h
    refine ⟨(o ++ be8 ks[k], bs, n, i, ks, ks.length, ((k + 1 : Nat) : Int), b), ⟨hk12, by rw [List.length_append, be8_length, Int.toNat_natCast]; omega, rfl, k + 1, by omega, rfl⟩, by simp only [Int.toNat_natCast]; omega, ?_, fun kn kx => ?_⟩
    · simp only [lbytes.L1.add, lbytes.L1.F, Int.toNat_natCast]
      rw [keysB_drop _ _ _ h]
    · rw [lbytes.L1.step]
      simp (disch := omega) only [↓N.lt, ↓N.le, ↓N.gt, ↓N.ge, ↓N.eq, ↓N.ne, ↓N.ib, ↓N.ic, ↓N.nn, ↓N.nz, ↓N.dc, ↓N.rm, ↓N.an, ↓N.or, ↓N.no, ↓if_pos, ↓if_neg, ↓sel_true, ↓sel_false, ↓obind_some, if_pos, if_neg, obind_some, N.aNN, N.aNL, N.aLN, N.sNN, N.sNL, N.sLN, N.mNN, N.mNL, N.mLN, N.qNN, N.qNL, N.rNN, N.rNL, N.cN, N.cL, N.tL, Int.toNat_natCast, if_true, if_false, and_self, true_and, and_true, n1]
      rw [cputu.run (d := (o, ks[k])) (by show o.length ≤ 90000000; omega)]
      rfl
  · right
    obtain rfl : k = ks.length := by omega
    intro R kn kx
    rw [lbytes.L1.step]
    simp (disch := omega) only [↓N.lt, ↓N.le, ↓N.gt, ↓N.ge, ↓N.eq, ↓N.ne, ↓N.ib, ↓N.ic, ↓N.nn, ↓N.nz, ↓N.dc, ↓N.rm, ↓N.an, ↓N.or, ↓N.no, ↓if_pos, ↓if_neg, ↓sel_true, ↓sel_false, ↓obind_some, if_pos, if_neg, obind_some, N.aNN, N.aNL, N.aLN, N.sNN, N.sNL, N.sLN, N.mNN, N.mNL, N.mLN, N.qNN, N.qNL, N.rNN, N.rNL, N.cN, N.cL, N.tL, Int.toNat_natCast, if_true, if_false, and_self, true_and, and_true, lbytes.L1.add, lbytes.L1.F, List.drop_length]
    rfl
theorem lbytes.L0.ok : ∀ d, lbytes.L0.Pre d → ∃ n, lrun Tryz.prog lbytes.G lbytes.an 0 Tryz.f17 0 n (lbytes.L0.st d) (fun e s => some (e, s)) = (lbytes.L0.out (lbytes.L0.add d (lbytes.L0.F d))).eval := by
  refine lbytes.L0.byRounds (fun (o, bs, n, i) => bs.length - i.toNat) ?_
  rintro ⟨o, bs, n, i⟩ ⟨hb, h4, hl, rfl, k, hk, rfl⟩
  have h4 : bs.length ≤ 4 := h4
  have hk : k ≤ bs.length := hk
  have hl : o.length ≤ 1000 + 200 * (k : Int).toNat := hl
  rw [Int.toNat_natCast] at hl
  by_cases h : k < bs.length
  · left
    have hx := hb _ (List.getElem_mem h)
    have n1 : nth (.pair (.slice (.int .u64)) (.pair (.int .i64) (.pair (.int .i64) (.pair (.int .u64) .unit)))) bs k = bs[k] := nth_lt (t := (.pair (.slice (.int .u64)) (.pair (.int .i64) (.pair (.int .i64) (.pair (.int .u64) .unit))))) h
    have e0 := brB_len o bs[k] hx.1
    refine ⟨(brB o bs[k], bs, bs.length, ((k + 1 : Nat) : Int)), ⟨hb, h4, by rw [Int.toNat_natCast]; omega, rfl, k + 1, by omega, rfl⟩, by simp only [Int.toNat_natCast]; omega, ?_, fun kn kx => ?_⟩
    · simp only [lbytes.L0.add, lbytes.L0.F, Int.toNat_natCast]
      rw [List.drop_eq_getElem_cons h]
      rfl
    · rw [lbytes.L0.step, ilt_true (by omega), inb_true (by omega) (by omega), Int.toNat_natCast, n1]
      obtain ⟨⟨ks, af, dl, sc, u⟩, hbk⟩ : ∃ b, bs[k] = b := ⟨_, rfl⟩
      rw [hbk] at hx e0 ⊢
      obtain ⟨h12, ha, hd⟩ := hx
      have h12 : ks.length ≤ 12 := h12
      have ha : af ≤ 9223372036854775807 := ha
      have hd : dl ≤ 9223372036854775807 := hd
      have l1 := putN_len o ks.length
      have l2 := keysB_len ks (putN o ks.length)
      have l3 := putN_len (keysB (putN o ks.length) ks) af
      have l4 := putN_len (putN (keysB (putN o ks.length) ks) af) dl
      simp only [sel_true]
      rw [cput.run (d := (o, (ks.length : Int))) ⟨by show o.length ≤ 90000000; omega, by show (ks.length : Int) ≤ 9223372036854775807; omega⟩]
      simp only [obind_some, cput.add, cput.F]
      rw [lbytes.L1.run (d := (putN o ks.length, bs, bs.length, k, ks, ks.length, 0, (ks, af, dl, sc, u))) ⟨h12, by show (putN o ks.length).length + 8 * ks.length ≤ _; omega, rfl, 0, by omega, rfl⟩]
      simp only [obind_some, lbytes.L1.add, lbytes.L1.F, Int.toNat_zero, List.drop_zero]
      rw [cput.run (d := (keysB (putN o ks.length) ks, af)) ⟨by show (keysB (putN o ks.length) ks).length ≤ 90000000; omega, ha⟩]
      simp only [obind_some, cput.add, cput.F]
      rw [cput.run (d := (putN (keysB (putN o ks.length) ks) af, dl)) ⟨by show (putN (keysB (putN o ks.length) ks) af).length ≤ 90000000; omega, hd⟩]
      simp only [obind_some, cput.add, cput.F]
      rw [cputu.run (d := (putN (putN (keysB (putN o ks.length) ks) af) dl, sc)) (by show (putN (putN (keysB (putN o ks.length) ks) af) dl).length ≤ 90000000; omega)]
      simp only [obind_some, cputu.add, cputu.F]
      rw [N.aNL (by omega)]
      rfl
  · right
    obtain rfl : k = bs.length := by omega
    intro R kn kx
    rw [lbytes.L0.step]
    simp (disch := omega) only [↓N.lt, ↓N.le, ↓N.gt, ↓N.ge, ↓N.eq, ↓N.ne, ↓N.ib, ↓N.ic, ↓N.nn, ↓N.nz, ↓N.dc, ↓N.rm, ↓N.an, ↓N.or, ↓N.no, ↓if_pos, ↓if_neg, ↓sel_true, ↓sel_false, ↓obind_some, if_pos, if_neg, obind_some, N.aNN, N.aNL, N.aLN, N.sNN, N.sNL, N.sLN, N.mNN, N.mNL, N.mLN, N.qNN, N.qNL, N.rNN, N.rNL, N.cN, N.cL, N.tL, Int.toNat_natCast, if_true, if_false, and_self, true_and, and_true, lbytes.L0.add, lbytes.L0.F, List.drop_length]
    rfl
theorem lkOk_i {l : Lk} (h : lkOk l = true) : (∀ b ∈ l.1, BrI b) ∧ 0 < l.1.length ∧ l.1.length ≤ 4 := by
  unfold lkOk at h
  simp only [Bool.and_eq_true, List.all_eq_true, decide_eq_true_eq] at h
  exact ⟨fun b hb => brOk_i (h.1 b hb), h.2⟩
theorem lbytes.ok : ∀ d, lbytes.Pre d → arun Tryz.prog lbytes.G lbytes.an 0 Tryz.f17 (lbytes.st d).1 (lbytes.st d).2 some = some (lbytes.out (lbytes.add d (lbytes.F d))) := by
  rintro l ⟨hl, hb⟩
  have hl : LkU l := hl
  rw [lbytes.eq, lright.run (d := l) ⟨hl, hb⟩]
  simp only [obind_some, lright.add, lright.F, lbytes.add, lbytes.F, lkB]
  cases hok : lkOk l
  · rfl
  · obtain ⟨h1, h2, h3⟩ := lkOk_i hok
    have l1 := putN_len [] l.1.length
    have l0 : ([] : List Int).length = 0 := rfl
    simp only [Bool.not_true, sel_false, if_true]
    rw [cput.run (d := ([], (l.1.length : Int))) ⟨by show ([] : List Int).length ≤ 90000000; omega, by show (l.1.length : Int) ≤ 9223372036854775807; omega⟩]
    simp only [obind_some, cput.add, cput.F]
    rw [lbytes.L0.run (d := (putN [] l.1.length, l.1, l.1.length, 0)) ⟨h1, h3, by show (putN [] l.1.length).length ≤ _; omega, rfl, 0, by omega, rfl⟩]
    rfl
theorem lkB_len (l : Lk) : (lkB l).length ≤ 1000 := by
  unfold lkB
  split
  · rename_i h
    obtain ⟨h1, h2, h3⟩ := lkOk_i h
    have key : ∀ (bs : List Brn) (o : List Int), (∀ b ∈ bs, BrI b) → (bs.foldl brB o).length ≤ o.length + 200 * bs.length := by
      intro bs
      induction bs with
      | nil => intro o _; exact Nat.le_refl _
      | cons b bs ih =>
        intro o hb
        have e1 := ih (brB o b) fun x hx => hb x (List.mem_cons_of_mem _ hx)
        have e2 := brB_len o b (hb b List.mem_cons_self).1
        rw [List.foldl_cons, List.length_cons]; omega
    have e := key l.1 (putN [] l.1.length) h1
    have e2 := putN_len [] l.1.length
    have l0 : ([] : List Int).length = 0 := rfl
    omega
  · exact Nat.zero_le _
def nLock : ByteArray := ⟨#[108, 111, 99, 107]⟩
def lkS (l : Lk) : List Int := if lkOk l then tagN nLock [lkB l] else List.replicate 32 0

theorem lbytes.inj : ∀ d d', lbytes.st d = lbytes.st d' → d = d' := fun l l' hEq => by
  have e0 : l = l' := d_inj (t := (.pair (.slice (.pair (.slice (.int .u64)) (.pair (.int .i64) (.pair (.int .i64) (.pair (.int .u64) .unit))))) .unit)) (congrArg (fun s : List AVal × List Ent => (s.1.getD 0 .undef)) hEq)
  rw [e0]
noncomputable def lbytes.E : Entry := Entry.of [some (.pair (.slice (.pair (.slice (.int .u64)) (.pair (.int .i64) (.pair (.int .i64) (.pair (.int .u64) .unit))))) .unit)] lbytes.st lbytes.Pre (fun d => lbytes.add d (lbytes.F d)) lbytes.out
noncomputable def lbytes.call : lbytes.D → Option lbytes.X := fun d => lbytes.E.run (lbytes.st d).1 (lbytes.st d).2
theorem lbytes.run {d : lbytes.D} (h : lbytes.Pre d) : lbytes.call d = some (lbytes.add d (lbytes.F d)) := Entry.of_run lbytes.inj h
theorem lbytes.does : Does Tryz.prog 17 lbytes.E := Does.of (by kernel_rfl) (show Sound _ lbytes.G from Sound.cons lright.does (Sound.cons cput.does (Sound.cons cputu.does (Sound.nil _)))) (by kernel_rfl) (by kernel_rfl) (by kernel_rfl) (LOk.fn 2 (by kernel_rfl) (And.intro (LDo.of (by kernel_rfl) lbytes.L0.ok) (And.intro (LDo.of (by kernel_rfl) lbytes.L1.ok) trivial))) lbytes.ok

/-! ### corsned/lock.Sum -/
abbrev lsum.D := ((List ((List Int) × (Int × (Int × (Int × Unit))))) × Unit)
def lsum.st : lsum.D → List AVal × List Ent := fun l => ([.d (.pair (.slice (.pair (.slice (.int .u64)) (.pair (.int .i64) (.pair (.int .i64) (.pair (.int .u64) .unit))))) .unit) l], [])
abbrev lsum.Y := (List Int)
abbrev lsum.X := (List Int)
def lsum.out : lsum.X → GRes := fun x => ⟨.d (.arr 32 (.int .u8)) x, [], []⟩
def lsum.add : lsum.D → lsum.Y → lsum.X := fun l y => y


def lsum.Pre : lsum.D → Prop := fun l => LkU l ∧ l.1.length ≤ 1000000000
def lsum.F : lsum.D → lsum.Y := fun l => lkS l

noncomputable def lsum.G : Gam := gcons 13 anyArgs lright.E (gcons 17 anyArgs lbytes.E (gcons 54 anyArgs htag.E (gnil)))
noncomputable def lsum.an : Ann := {
  objs := [],
  loops := fun r => { keep := [], sites := [], frz := [], data := [], owns := [] },
  outs := fun r b => { keep := [], sites := [], frz := [], data := [], owns := [] },
  sums := fun r => none,
  owns := [],
  trim := [],
  res := [] }
theorem lsum.eq {R : Type} (l : ((List ((List Int) × (Int × (Int × (Int × Unit))))) × Unit)) (k : GRes → Option R) : arun Tryz.prog lsum.G lsum.an 0 Tryz.f19 (lsum.st l).1 (lsum.st l).2 k =
  obind (lright.call l) fun x1 =>
  sel ((!x1)) (
   k (lsum.out (List.replicate 32 (0 : Int)))) (
   obind (lbytes.call l) fun x2 =>
   obind (htag.call ((⟨#[108, 111, 99, 107]⟩ : ByteArray), [x2])) fun x3 =>
   k (lsum.out x3)) := by kernel_rfl


theorem lsum.ok : ∀ d, lsum.Pre d → arun Tryz.prog lsum.G lsum.an 0 Tryz.f19 (lsum.st d).1 (lsum.st d).2 some = some (lsum.out (lsum.add d (lsum.F d))) := by
  rintro l ⟨hl, hb⟩
  have hl : LkU l := hl
  have hlen := lkB_len l
  rw [lsum.eq, lright.run (d := l) ⟨hl, hb⟩, lbytes.run (d := l) ⟨hl, hb⟩]
  simp only [obind_some, lright.add, lright.F, lbytes.add, lbytes.F, lsum.add, lsum.F, lkS]
  rw [htag.run (d := ((⟨#[108, 111, 99, 107]⟩ : ByteArray), [lkB l])) (tag_pre1 (by decide) (by omega))]
  cases lkOk l <;> rfl

theorem lsum.inj : ∀ d d', lsum.st d = lsum.st d' → d = d' := fun l l' hEq => by
  have e0 : l = l' := d_inj (t := (.pair (.slice (.pair (.slice (.int .u64)) (.pair (.int .i64) (.pair (.int .i64) (.pair (.int .u64) .unit))))) .unit)) (congrArg (fun s : List AVal × List Ent => (s.1.getD 0 .undef)) hEq)
  rw [e0]
noncomputable def lsum.E : Entry := Entry.of [some (.pair (.slice (.pair (.slice (.int .u64)) (.pair (.int .i64) (.pair (.int .i64) (.pair (.int .u64) .unit))))) .unit)] lsum.st lsum.Pre (fun d => lsum.add d (lsum.F d)) lsum.out
noncomputable def lsum.call : lsum.D → Option lsum.X := fun d => lsum.E.run (lsum.st d).1 (lsum.st d).2
theorem lsum.run {d : lsum.D} (h : lsum.Pre d) : lsum.call d = some (lsum.add d (lsum.F d)) := Entry.of_run lsum.inj h
theorem lsum.does : Does Tryz.prog 19 lsum.E := Does.of (by kernel_rfl) (show Sound _ lsum.G from Sound.cons lright.does (Sound.cons lbytes.does (Sound.cons htag.does (Sound.nil _)))) (by kernel_rfl) (by kernel_rfl) (by kernel_rfl) (LOk.fn 0 (by kernel_rfl) trivial) lsum.ok

end Go.Ab
