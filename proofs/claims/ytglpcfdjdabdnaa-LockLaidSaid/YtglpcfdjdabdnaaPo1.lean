/-
  Made by a program of mine (wip/gen), and by hand.
-/
import Derived.Test.YtglpcfdjdabdnaaBi2
namespace Go.Ab
open Go.Proofs
set_option maxRecDepth 100000
set_option linter.unusedVariables false
set_option linter.unusedSimpArgs false


/-- A number of the group's modulus. -/
def Pn (x : Int) : Prop := 0 ≤ x ∧ x < 4611686018427377339
def U64 (x : Int) : Prop := 0 ≤ x ∧ x < 18446744073709551616
theorem Pn.u {x : Int} (h : Pn x) : U64 x := ⟨h.1, by have := h.2; omega⟩
def mulP (a b : Int) : Int := a * b % 4611686018427377339
theorem mulP_ok (a b : Int) : Pn (mulP a b) := ⟨Int.emod_nonneg _ (by omega), Int.emod_lt_of_pos _ (by omega)⟩
/-- A power: by squares. -/
def pwF : Nat → Int → Nat → Int → Int
  | 0, _, _, out => out
  | f + 1, a, n, out => if n = 0 then out else pwF f (mulP a a) (n / 2) (if n % 2 = 1 then mulP out a else out)
def pw (a : Int) (n : Nat) : Int := pwF 64 a n 1
theorem pwF_zero (f : Nat) (a out : Int) : pwF f a 0 out = out := by cases f <;> rfl
theorem pwF_more : ∀ (f g : Nat) (a : Int) (n : Nat) (out : Int), n < 2 ^ f → n < 2 ^ g → pwF f a n out = pwF g a n out
  | 0, g, a, n, out, h, _ => by
    obtain rfl : n = 0 := by omega
    rw [pwF_zero, pwF_zero]
  | f + 1, 0, a, n, out, _, h => by
    obtain rfl : n = 0 := by omega
    rw [pwF_zero, pwF_zero]
  | f + 1, g + 1, a, n, out, h, h' => by
    have e : (2 : Nat) ^ (f + 1) = 2 ^ f * 2 := Nat.pow_succ 2 f
    have e' : (2 : Nat) ^ (g + 1) = 2 ^ g * 2 := Nat.pow_succ 2 g
    unfold pwF
    split
    · rfl
    · exact pwF_more f g _ _ _ (by omega) (by omega)
theorem pwF_ok : ∀ (f : Nat) (a : Int) (n : Nat) (out : Int), Pn out → Pn (pwF f a n out)
  | 0, _, _, _, h => h
  | f + 1, a, n, out, h => by
    unfold pwF
    split
    · exact h
    · refine pwF_ok f _ _ _ ?_
      split
      · exact mulP_ok _ _
      · exact h
theorem pw_ok (a : Int) (n : Nat) : Pn (pw a n) := pwF_ok _ _ _ _ ⟨by omega, by omega⟩

/-! ### corsned/point.times -/
abbrev ptimes.D := Int × Int
def ptimes.st : ptimes.D → List AVal × List Ent := fun (a, b) => ([.d (.int .u64) a, .d (.int .u64) b], [])
abbrev ptimes.Y := Int
abbrev ptimes.X := Int
def ptimes.out : ptimes.X → GRes := fun x => ⟨.d (.int .u64) x, [], []⟩
def ptimes.add : ptimes.D → ptimes.Y → ptimes.X := fun (a, b) y => y


def ptimes.Pre : ptimes.D → Prop := fun (a, b) => U64 a ∧ U64 b
def ptimes.F : ptimes.D → ptimes.Y := fun (a, b) => mulP a b

noncomputable def ptimes.G : Gam := gcons 86 anyArgs mul64.E (gcons 85 anyArgs rem64.E (gnil))
noncomputable def ptimes.an : Ann := {
  objs := [],
  loops := fun r => { keep := [], sites := [], frz := [], data := [], owns := [] },
  outs := fun r b => { keep := [], sites := [], frz := [], data := [], owns := [] },
  sums := fun r => none,
  owns := [],
  trim := [],
  res := [] }
theorem ptimes.eq {R : Type} (a : Int) (b : Int) (k : GRes → Option R) : arun Try.prog ptimes.G ptimes.an 0 Try.f66 (ptimes.st (a, b)).1 (ptimes.st (a, b)).2 k =
  obind (mul64.call (a, b)) fun x1 =>
  obind (rem64.call (x1.1, x1.2, (4611686018427377339 : Int))) fun x2 =>
  k (ptimes.out x2) := by kernel_rfl


theorem two_digits (n : Int) : n / 18446744073709551616 * 18446744073709551616 + n % 18446744073709551616 = n := by omega
theorem ptimes.ok : ∀ d, ptimes.Pre d → arun Try.prog ptimes.G ptimes.an 0 Try.f66 (ptimes.st d).1 (ptimes.st d).2 some = some (ptimes.out (ptimes.add d (ptimes.F d))) := by
  rintro ⟨a, b⟩ ⟨ha, hb⟩
  have ha : U64 a := ha
  have hb : U64 b := hb
  obtain ⟨m1, m2⟩ := mul_le ha.1 (show a ≤ 18446744073709551615 by have := ha.2; omega) hb.1 (show b ≤ 18446744073709551615 by have := hb.2; omega)
  have n : (18446744073709551615 : Int) * 18446744073709551615 = 340282366920938463426481119284349108225 := rfl
  rw [n] at m2
  have p : rem64.Pre (a * b / 18446744073709551616, a * b % 18446744073709551616, 4611686018427377339) := ⟨Or.inl rfl, by omega, by omega, by omega, by omega⟩
  rw [ptimes.eq, mul64.run (d := (a, b)) ⟨ha, hb⟩]
  simp only [obind_some, mul64.add, mul64.F]
  rw [rem64.run p]
  simp only [obind_some, rem64.add, rem64.F, two_digits]
  rfl

theorem ptimes.inj : ∀ d d', ptimes.st d = ptimes.st d' → d = d' := fun (a, b) (a', b') hEq => by
  have e0 : a = a' := d_inj (t := (.int .u64)) (congrArg (fun s : List AVal × List Ent => (s.1.getD 0 .undef)) hEq)
  have e1 : b = b' := d_inj (t := (.int .u64)) (congrArg (fun s : List AVal × List Ent => (s.1.getD 1 .undef)) hEq)
  rw [e0, e1]
noncomputable def ptimes.E : Entry := Entry.of [some (.int .u64), some (.int .u64)] ptimes.st ptimes.Pre (fun d => ptimes.add d (ptimes.F d)) ptimes.out
noncomputable def ptimes.call : ptimes.D → Option ptimes.X := fun d => ptimes.E.run (ptimes.st d).1 (ptimes.st d).2
theorem ptimes.run {d : ptimes.D} (h : ptimes.Pre d) : ptimes.call d = some (ptimes.add d (ptimes.F d)) := Entry.of_run ptimes.inj h
theorem ptimes.does : Does Try.prog 66 ptimes.E := Does.of (by kernel_rfl) (show Sound _ ptimes.G from Sound.cons mul64.does (Sound.cons rem64.does (Sound.nil _))) (by kernel_rfl) (by kernel_rfl) (by kernel_rfl) (LOk.fn 0 (by kernel_rfl) trivial) ptimes.ok

/-! ### corsned/point.power -/
abbrev ppower.L0.D := Int × Int × Int
def ppower.L0.st : ppower.L0.D → AS := fun (a_2, n_2, outv) => ⟨([.d (.int .u64) a_2, .d (.int .u64) n_2, .undef, .undef, .undef, .d (.int .u64) outv] ++ undN 14 []), [], (List.replicate 20 [])⟩
abbrev ppower.L0.Y0 := Int  -- out
abbrev ppower.L0.X0 := Int
def ppower.L0.ex0 : ppower.L0.X0 → Exit × AS := fun x => (.exit 0, ⟨(undN 5 ([.d (.int .u64) x] ++ undN 14 [])), [], (List.replicate 20 [])⟩)
abbrev ppower.L0.X := ppower.L0.X0
abbrev ppower.L0.Y := ppower.L0.Y0
def ppower.L0.out : ppower.L0.X → Out (Exit × AS) := fun x => .ok (ppower.L0.ex0 x)
def ppower.L0.add : ppower.L0.D → ppower.L0.Y → ppower.L0.X := fun (a_2, n_2, outv) y => y
abbrev ppower.D := Int × Int
def ppower.st : ppower.D → List AVal × List Ent := fun (a, n) => ([.d (.int .u64) a, .d (.int .u64) n], [])
abbrev ppower.Y := Int
abbrev ppower.X := Int
def ppower.out : ppower.X → GRes := fun x => ⟨.d (.int .u64) x, [], []⟩
def ppower.add : ppower.D → ppower.Y → ppower.X := fun (a, n) y => y


def ppower.L0.Pre : ppower.L0.D → Prop := fun (a, n, o) => U64 a ∧ U64 n ∧ Pn o
def ppower.L0.F : ppower.L0.D → ppower.L0.Y := fun (a, n, o) => pwF 64 a n.toNat o
def ppower.Pre : ppower.D → Prop := fun (a, n) => U64 a ∧ U64 n
def ppower.F : ppower.D → ppower.Y := fun (a, n) => pw a n.toNat

noncomputable def ppower.G : Gam := gcons 66 anyArgs ptimes.E (gnil)
noncomputable def ppower.L0.E : LEntry := LEntry.of ppower.L0.st ppower.L0.Pre (fun d => ppower.L0.add d (ppower.L0.F d)) ppower.L0.out
noncomputable def ppower.L0.call : ppower.L0.D → Option ppower.L0.X := fun d => ppower.L0.E.run (ppower.L0.st d)
noncomputable def ppower.an : Ann := {
  objs := [],
  loops := fun r => bif Nat.beq r 2 then { keep := [0, 1, 5], sites := [], frz := [], data := [], owns := [] } else { keep := [], sites := [], frz := [], data := [], owns := [] },
  outs := fun r b => bif Nat.beq r 2 then (bif b then { keep := [4], sites := [], frz := [], data := [], owns := [] } else { keep := [5], sites := [], frz := [], data := [], owns := [] }) else { keep := [], sites := [], frz := [], data := [], owns := [] },
  sums := fun r => bif Nat.beq r 2 then some ppower.L0.E else none,
  owns := [],
  trim := [],
  res := [] }
theorem ppower.L0.inj : ∀ d d', ppower.L0.st d = ppower.L0.st d' → d = d' := fun (a_2, n_2, outv) (a_2', n_2', outv') hEq => by
  have e0 : a_2 = a_2' := d_inj (t := (.int .u64)) (congrArg (fun s : AS => (s.slot 0)) hEq)
  have e1 : n_2 = n_2' := d_inj (t := (.int .u64)) (congrArg (fun s : AS => (s.slot 1)) hEq)
  have e2 : outv = outv' := d_inj (t := (.int .u64)) (congrArg (fun s : AS => (s.slot 5)) hEq)
  rw [e0, e1, e2]
theorem ppower.L0.run {d : ppower.L0.D} (h : ppower.L0.Pre d) : ppower.L0.call d = some (ppower.L0.add d (ppower.L0.F d)) := LEntry.of_run ppower.L0.inj h
theorem ppower.L0.byRounds (μ : ppower.L0.D → Nat) (h : ∀ d, ppower.L0.Pre d → (∃ d', ppower.L0.Pre d' ∧ μ d' < μ d ∧ ppower.L0.add d' (ppower.L0.F d') = ppower.L0.add d (ppower.L0.F d) ∧ ∀ {R : Type} (kn : AS → Option R) (kx : Exit → AS → Option R), lround Try.prog ppower.G ppower.an 0 Try.f41 0 (ppower.L0.st d) kn kx = kn (ppower.L0.st d')) ∨ (∀ {R : Type} (kn : AS → Option R) (kx : Exit → AS → Option R), lround Try.prog ppower.G ppower.an 0 Try.f41 0 (ppower.L0.st d) kn kx = kx (ppower.L0.ex0 (ppower.L0.add d (ppower.L0.F d))).1 (ppower.L0.ex0 (ppower.L0.add d (ppower.L0.F d))).2)) : ∀ d, ppower.L0.Pre d → ∃ n, lrun Try.prog ppower.G ppower.an 0 Try.f41 0 n (ppower.L0.st d) (fun e s => some (e, s)) = (ppower.L0.out (ppower.L0.add d (ppower.L0.F d))).eval := lrun_one (F := fun d => ppower.L0.add d (ppower.L0.F d)) μ h
theorem ppower.L0.step {R : Type} (a_2 : Int) (n_2 : Int) (outv : Int) (kn : AS → Option R) (kx : Exit → AS → Option R) : lround Try.prog ppower.G ppower.an 0 Try.f41 0 (ppower.L0.st (a_2, n_2, outv)) kn kx =
  sel ((igt n_2 (0 : Int))) (
   sel ((ieq (bitop .and .u64 n_2 (1 : Int)) (1 : Int))) (
    obind (ptimes.call (outv, a_2)) fun x1 =>
    obind (ptimes.call (a_2, a_2)) fun x2 =>
    kn (ppower.L0.st (x2, (ishr .u64 n_2 (1 : Int)), x1))) (
    obind (ptimes.call (a_2, a_2)) fun x3 =>
    kn (ppower.L0.st (x3, (ishr .u64 n_2 (1 : Int)), outv)))) (
   kx (ppower.L0.ex0 outv).1 (ppower.L0.ex0 outv).2) := by kernel_rfl
theorem ppower.eq {R : Type} (a : Int) (n : Int) (k : GRes → Option R) : arun Try.prog ppower.G ppower.an 0 Try.f41 (ppower.st (a, n)).1 (ppower.st (a, n)).2 k =
  obind (ppower.L0.call (a, n, (1 : Int))) fun x4 =>
  k (ppower.out x4) := by kernel_rfl


theorem shr1 {n : Int} (h : U64 n) : ishr .u64 n 1 = n / 2 := shr_u64 1 (by rfl) (by omega)
theorem ppower.L0.ok : ∀ d, ppower.L0.Pre d → ∃ n, lrun Try.prog ppower.G ppower.an 0 Try.f41 0 n (ppower.L0.st d) (fun e s => some (e, s)) = (ppower.L0.out (ppower.L0.add d (ppower.L0.F d))).eval := by
  refine ppower.L0.byRounds (fun (a, n, o) => n.toNat) ?_
  rintro ⟨a, n, o⟩ ⟨ha, hn, ho⟩
  have ha : U64 a := ha
  have hn : U64 n := hn
  have ho : Pn o := ho
  have n0 := hn.1
  have n1 := hn.2
  by_cases h : 0 < n
  · left
    have e : ppower.L0.F (a, n, o) = ppower.L0.F (mulP a a, n / 2, if n % 2 = 1 then mulP o a else o) := by
      show pwF 64 a n.toNat o = pwF 64 (mulP a a) (n / 2).toNat _
      rw [pwF_more 64 65 a n.toNat o (by omega) (by omega)]
      have t1 : (n / 2).toNat = n.toNat / 2 := by omega
      have t2 : (n % 2 = 1) = (n.toNat % 2 = 1) := by apply propext; omega
      rw [t1]
      simp only [t2]
      show (if n.toNat = 0 then o else _) = _
      rw [if_neg (by omega)]
    refine ⟨(mulP a a, n / 2, if n % 2 = 1 then mulP o a else o), ⟨(mulP_ok a a).u, ⟨by omega, by omega⟩, ?_⟩, by show (n / 2).toNat < n.toNat; omega, ?_, fun kn kx => ?_⟩
    · show Pn (if n % 2 = 1 then mulP o a else o)
      split
      · exact mulP_ok _ _
      · exact ho
    · exact congrArg _ e.symm
    · rw [ppower.L0.step, igt_true h, shr1 hn, and1 n0 n1, ptimes.run (d := (o, a)) ⟨ho.u, ha⟩, ptimes.run (d := (a, a)) ⟨ha, ha⟩]
      by_cases h1 : n % 2 = 1
      · rw [ieq_true h1, if_pos h1]; rfl
      · rw [ieq_false h1, if_neg h1]; rfl
  · right
    intro R kn kx
    obtain rfl : n = 0 := by omega
    rw [ppower.L0.step, igt_false (by omega)]
    simp only [sel_false, ppower.L0.add, ppower.L0.F]
    rw [show pwF 64 a (Int.toNat 0) o = o from pwF_zero _ _ _]
theorem ppower.ok : ∀ d, ppower.Pre d → arun Try.prog ppower.G ppower.an 0 Try.f41 (ppower.st d).1 (ppower.st d).2 some = some (ppower.out (ppower.add d (ppower.F d))) := by
  rintro ⟨a, n⟩ ⟨ha, hn⟩
  rw [ppower.eq, ppower.L0.run (d := (a, n, 1)) ⟨ha, hn, by omega, by omega⟩]
  rfl

theorem ppower.inj : ∀ d d', ppower.st d = ppower.st d' → d = d' := fun (a, n) (a', n') hEq => by
  have e0 : a = a' := d_inj (t := (.int .u64)) (congrArg (fun s : List AVal × List Ent => (s.1.getD 0 .undef)) hEq)
  have e1 : n = n' := d_inj (t := (.int .u64)) (congrArg (fun s : List AVal × List Ent => (s.1.getD 1 .undef)) hEq)
  rw [e0, e1]
noncomputable def ppower.E : Entry := Entry.of [some (.int .u64), some (.int .u64)] ppower.st ppower.Pre (fun d => ppower.add d (ppower.F d)) ppower.out
noncomputable def ppower.call : ppower.D → Option ppower.X := fun d => ppower.E.run (ppower.st d).1 (ppower.st d).2
theorem ppower.run {d : ppower.D} (h : ppower.Pre d) : ppower.call d = some (ppower.add d (ppower.F d)) := Entry.of_run ppower.inj h
theorem ppower.does : Does Try.prog 41 ppower.E := Does.of (by kernel_rfl) (show Sound _ ppower.G from Sound.cons ptimes.does (Sound.nil _)) (by kernel_rfl) (by kernel_rfl) (by kernel_rfl) (LOk.fn 1 (by kernel_rfl) (And.intro (LDo.of (by kernel_rfl) ppower.L0.ok) trivial)) ppower.ok

end Go.Ab
