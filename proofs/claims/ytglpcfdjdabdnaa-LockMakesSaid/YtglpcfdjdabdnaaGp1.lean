/-
  Made by a program of mine (wip/gen), and by hand.
-/
import Derived.Test.YtglpcfdjdabdnaaPo2
namespace Go.Ab
open Go.Proofs
set_option maxRecDepth 100000
set_option linter.unusedVariables false
set_option linter.unusedSimpArgs false

theorem pow_emod (x : Int) (m : Int) : ∀ k : Nat, (x % m) ^ k % m = x ^ k % m
  | 0 => by rw [Int.pow_zero, Int.pow_zero]
  | k + 1 => by rw [Int.pow_succ, Int.pow_succ, Int.mul_emod, pow_emod x m k, Int.emod_emod_of_dvd _ (Int.dvd_refl m), ← Int.mul_emod]
theorem sq_pow (a : Int) (k : Nat) : (a * a) ^ k = a ^ (2 * k) := by
  rw [Int.pow_mul, Int.pow_succ, Int.pow_succ, Int.pow_zero, Int.one_mul]
theorem pwF_eq : ∀ (f : Nat) (a : Int) (n : Nat) (out : Int), n < 2 ^ f → Pn out → pwF f a n out = out * a ^ n % 4611686018427377339
  | 0, a, n, out, h, ho => by
    obtain rfl : n = 0 := by omega
    rw [pwF_zero, Int.pow_zero, Int.mul_one, Int.emod_eq_of_lt ho.1 ho.2]
  | f + 1, a, n, out, h, ho => by
    have e : (2 : Nat) ^ (f + 1) = 2 ^ f * 2 := Nat.pow_succ 2 f
    rw [pwF]
    split
    · rename_i h0
      subst h0
      rw [Int.pow_zero, Int.mul_one, Int.emod_eq_of_lt ho.1 ho.2]
    · have hp : Pn (if n % 2 = 1 then mulP out a else out) := by
        split
        · exact mulP_ok _ _
        · exact ho
      rw [pwF_eq f _ _ _ (by omega) hp, Int.mul_emod]
      have e1 : (mulP a a) ^ (n / 2) % 4611686018427377339 = a ^ (2 * (n / 2)) % 4611686018427377339 := by
        unfold mulP
        rw [pow_emod, sq_pow]
      have e2 : (if n % 2 = 1 then mulP out a else out) % 4611686018427377339 = (out * a ^ (n % 2)) % 4611686018427377339 := by
        split
        · rename_i h1
          rw [h1, Int.pow_succ, Int.pow_zero, Int.one_mul]
          exact Int.emod_emod_of_dvd _ (Int.dvd_refl _)
        · have h1 : n % 2 = 0 := by omega
          rw [h1, Int.pow_zero, Int.mul_one]
      rw [e1, e2, ← Int.mul_emod, Int.mul_assoc, ← Int.pow_add]
      have e3 : n % 2 + 2 * (n / 2) = n := by omega
      rw [e3]
theorem pw_eq (a : Int) (n : Nat) (h : n < 18446744073709551616) : pw a n = a ^ n % 4611686018427377339 := by
  unfold pw
  rw [pwF_eq 64 a n 1 h ⟨by omega, by omega⟩, Int.one_mul]
theorem one_pow (k : Nat) : (1 : Int) ^ k = 1 := Int.one_pow
/-- What has an order, has each power of it, too. -/
theorem pw_order (a : Int) (k q : Nat) (hk : k < 18446744073709551616) (hq : q < 18446744073709551616) (h : pw a q = 1) : pw (pw a k) q = 1 := by
  rw [pw_eq _ _ hq] at h
  rw [pw_eq _ _ hq, pw_eq _ _ hk, pow_emod, ← Int.pow_mul, Nat.mul_comm, Int.pow_mul, ← pow_emod, h, one_pow]
  rfl
theorem gen_order : pw 4 2305843009213688669 = 1 := by decide +kernel
theorem one_order : pw 1 2305843009213688669 = 1 := by decide +kernel
theorem isP_gen : isP 4 = true := by rw [isP, gen_order]; rfl
theorem isP_one : isP 1 = true := by rw [isP, one_order]; rfl
theorem neg_one : negP 1 = 1 := by
  have e : pw 1 2305843009213688668 = 1 := by decide +kernel
  rw [negP, tk, isP_one]
  exact e
theorem pos_of_order {a : Int} (h : Pn a) (q : Nat) (hq : 0 < q) (hq2 : q < 18446744073709551616) (hp : pw a q = 1) : 0 < a := by
  rcases Int.lt_or_eq_of_le h.1 with h0 | h0
  · exact h0
  · subst h0
    rw [pw_eq _ _ hq2, Int.zero_pow (by omega)] at hp
    cases hp
theorem isP_of {a : Int} (h : Pn a) (hp : pw a 2305843009213688669 = 1) : isP a = true := by
  have h0 := pos_of_order h 2305843009213688669 (by decide) (by decide) hp
  rw [isP, hp, decide_eq_true ⟨h0, h.2⟩]; rfl
theorem isP_order {a : Int} (h : isP a = true) : pw a 2305843009213688669 = 1 ∧ Pn a := by
  rw [isP, Bool.and_eq_true, decide_eq_true_eq, decide_eq_true_eq] at h
  exact ⟨h.2, by omega, h.1.2⟩
theorem isP_pw {a : Int} (h : isP a = true) (k : Nat) (hk : k < 18446744073709551616) : isP (pw a k) = true :=
  isP_of (pw_ok _ _) (pw_order a k _ hk (by decide) (isP_order h).1)
theorem isP_tk (a : Int) : isP (tk a) = true := by
  unfold tk
  cases h : isP a
  · exact isP_one
  · exact h
theorem isP_scale (p k : Int) : isP (scaleP p k) = true := isP_pw (isP_tk p) _ (by omega)
theorem tk_of {a : Int} (h : isP a = true) : tk a = a := by rw [tk, h]; rfl
theorem isP_base (k : Int) : isP (baseP k) = true := isP_scale 4 k
theorem mul_one' {a : Int} (h : Pn a) : mulP a 1 = a := by rw [mulP, Int.mul_one, Int.emod_eq_of_lt h.1 h.2]
theorem sum_three (a b c : Int) : sumP [a, b, c] = mulP (mulP (mulP 1 (tk a)) (tk b)) (tk c) := rfl
/-- The equation of a signature that lacks nothing, in two ways. -/
theorem checks_eq (r sc s : Int) : (baseP s = sumP [r, sc, negP 1]) = (sumP [baseP s, 1] = sumP [r, sc]) := by
  have e1 : sumP [baseP s, 1] = baseP s := by
    show mulP (mulP 1 (tk (baseP s))) (tk 1) = _
    rw [tk_of (isP_base s), tk_of isP_one, mul_one' (mulP_ok _ _), mulP, Int.one_mul]
    have h := (isP_order (isP_base s)).2
    exact Int.emod_eq_of_lt h.1 h.2
  have e2 : sumP [r, sc, negP 1] = sumP [r, sc] := by
    rw [neg_one]
    show mulP (mulP (mulP 1 (tk r)) (tk sc)) (tk 1) = mulP (mulP 1 (tk r)) (tk sc)
    rw [tk_of isP_one, mul_one' (mulP_ok _ _)]
  rw [e1, e2]

end Go.Ab
