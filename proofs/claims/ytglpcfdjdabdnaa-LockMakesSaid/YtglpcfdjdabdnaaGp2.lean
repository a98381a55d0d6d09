/-
  Made by a program of mine (wip/gen), and by hand.
-/
import Derived.Test.YtglpcfdjdabdnaaGp1
import Derived.Test.YtglpcfdjdabdnaaSi1
namespace Go.Ab
open Go.Proofs
set_option maxRecDepth 100000
set_option linter.unusedVariables false
set_option linter.unusedSimpArgs false

/-- a to the n over m, times out, by squares. -/
def pm (m : Nat) : Nat → Nat → Nat → Nat → Nat
  | 0, _, _, out => out % m
  | f + 1, a, n, out => if n = 0 then out % m else pm m f (a * a % m) (n / 2) (if n % 2 = 1 then out * a % m else out)
theorem pm_eq (m : Nat) : ∀ (f a n out : Nat), n < 2 ^ f → pm m f a n out = out * a ^ n % m
  | 0, a, n, out, h => by
    obtain rfl : n = 0 := by omega
    rw [pm, Nat.pow_zero, Nat.mul_one]
  | f + 1, a, n, out, h => by
    have e : (2 : Nat) ^ (f + 1) = 2 ^ f * 2 := Nat.pow_succ (n := 2) (m := f)
    rw [pm]
    split
    · rename_i h0
      subst h0
      rw [Nat.pow_zero, Nat.mul_one]
    · rw [pm_eq m f _ _ _ (by omega), Nat.mul_mod]
      have e1 : (a * a % m) ^ (n / 2) % m = a ^ (2 * (n / 2)) % m := by
        rw [← Nat.pow_mod, Nat.pow_mul, Nat.pow_two]
      have e2 : (if n % 2 = 1 then out * a % m else out) % m = (out * a ^ (n % 2)) % m := by
        split
        · rename_i h1
          rw [h1, Nat.pow_one, Nat.mod_mod]
        · have h1 : n % 2 = 0 := by omega
          rw [h1, Nat.pow_zero, Nat.mul_one]
      rw [e1, e2, ← Nat.mul_mod, Nat.mul_assoc, ← Nat.pow_add]
      have e3 : n % 2 + 2 * (n / 2) = n := by omega
      rw [e3]
/-- No two alike, all below r: there are no more than r. -/
theorem holes : ∀ (r q : Nat) (f : Nat → Nat), (∀ i, i < q → f i < r) → (∀ i j, i < j → j < q → f i ≠ f j) → q ≤ r
  | 0, q, f, h, _ => by
    rcases Nat.eq_zero_or_pos q with h0 | h0
    · omega
    · exact absurd (h 0 h0) (Nat.not_lt_zero _)
  | r + 1, q, f, h, g => by
    by_cases hx : ∃ i, i < q ∧ f i = r
    · obtain ⟨i, hi, hr⟩ := hx
      have e := holes r (q - 1) (fun j => if j < i then f j else f (j + 1)) (fun j hj => by
        by_cases h1 : j < i
        · have a := h j (by omega)
          have b := g j i h1 hi
          simp only [h1, if_true]
          omega
        · have a := h (j + 1) (by omega)
          have b := g i (j + 1) (by omega) (by omega)
          simp only [h1, if_false]
          omega) (fun j k hjk hk => by
        by_cases h1 : j < i
        · by_cases h2 : k < i
          · simp only [h1, h2, if_true]
            exact g j k hjk (by omega)
          · simp only [h1, h2, if_true, if_false]
            exact g j (k + 1) (by omega) (by omega)
        · have h2 : ¬ k < i := by omega
          simp only [h1, h2, if_false]
          exact g (j + 1) (k + 1) (by omega) (by omega))
      omega
    · have e := holes r q f (fun i hi => by
        have a := h i hi
        have b : f i ≠ r := fun x => hx ⟨i, hi, x⟩
        omega) g
      omega
/-- What two powers are one, the power of the greatest divisor is. -/
theorem pow_gcd (a m : Nat) (h1 : 1 % m = 1) : ∀ i j : Nat, a ^ i % m = 1 → a ^ j % m = 1 → a ^ (Nat.gcd i j) % m = 1 := by
  intro i
  induction i using Nat.strongRecOn with
  | ind i ih =>
    intro j hi hj
    rcases Nat.eq_zero_or_pos i with h0 | h0
    · subst h0; rw [Nat.gcd_zero_left]; exact hj
    · rw [Nat.gcd_rec]
      refine ih (j % i) (Nat.mod_lt _ h0) i ?_ hi
      have e : a ^ j = (a ^ i) ^ (j / i) * a ^ (j % i) := by rw [← Nat.pow_mul, ← Nat.pow_add, Nat.div_add_mod]
      rw [e, Nat.mul_mod, Nat.pow_mod, hi, Nat.one_pow, h1, Nat.one_mul, Nat.mod_mod] at hj
      exact hj
def Pri (n : Nat) : Prop := ∀ d, d ∣ n → d = 1 ∨ d = n
theorem pri_gcd {n k : Nat} (h : Pri n) (h0 : 0 < k) (hk : k < n) : Nat.gcd k n = 1 := by
  rcases h _ (Nat.gcd_dvd_right k n) with h1 | h1
  · exact h1
  · have := Nat.le_of_dvd h0 (Nat.gcd_dvd_left k n); omega
theorem no_small {n : Nat} (hn : 1 < n) (h : ∀ r, 1 < r → r * r ≤ n → ¬ r ∣ n) : Pri n := by
  intro d hd
  obtain ⟨e, he⟩ := hd
  have hd0 : 0 < d := Nat.pos_of_ne_zero (by intro x; rw [x, Nat.zero_mul] at he; omega)
  have he0 : 0 < e := Nat.pos_of_ne_zero (by intro x; rw [x, Nat.mul_zero] at he; omega)
  by_cases h1 : d = 1
  · exact .inl h1
  by_cases h2 : e = 1
  · right; rw [he, h2, Nat.mul_one]
  exfalso
  rcases Nat.le_total d e with hle | hle
  · exact h d (by omega) (by rw [he]; exact Nat.mul_le_mul_left d hle) ⟨e, he⟩
  · exact h e (by omega) (by rw [he]; exact Nat.mul_le_mul_right e hle) ⟨d, by rw [he, Nat.mul_comm]⟩
/-- A number is prime, if another prime below it tells so. -/
theorem pri_of {n q b : Nat} (hn : 1 < n) (hq : Pri q) (hq1 : 1 < q) (hqq : n < q * q) (hb : b ^ q % n = 1) (hg : Nat.gcd (b - 1) n = 1) (hb0 : 0 < b) : Pri n := by
  refine no_small hn fun r hr hrr hrn => ?_
  have h1r : 1 % r = 1 := Nat.mod_eq_of_lt hr
  have hbr : b ^ q % r = 1 := by
    have := Nat.mod_mod_of_dvd (b ^ q) hrn
    rw [← this, hb, h1r]
  have hne : b % r ≠ 1 := by
    intro hx
    have hd : r ∣ b - 1 := by have e := Nat.dvd_sub_mod (n := r) b; rw [hx] at e; exact e
    have := Nat.dvd_gcd hd hrn
    rw [hg] at this
    have := Nat.le_of_dvd (by omega) this
    omega
  have key : q ≤ r := by
    refine holes r q (fun i => b ^ i % r) (fun i _ => Nat.mod_lt _ (by omega)) fun i j hij hj he => ?_
    have e1 : b ^ (j - i) % r = 1 := by
      have x1 : b ^ (q - i) * b ^ i % r = b ^ (q - i) * b ^ j % r := by rw [Nat.mul_mod, he, ← Nat.mul_mod]
      rw [← Nat.pow_add, ← Nat.pow_add, show q - i + i = q by omega, show q - i + j = q + (j - i) by omega, Nat.pow_add, Nat.mul_mod, hbr, Nat.one_mul, Nat.mod_mod] at x1
      exact x1.symm
    have e2 := pow_gcd b r h1r (j - i) q e1 hbr
    rw [pri_gcd hq (by omega) (by omega), Nat.pow_one] at e2
    exact hne e2
  have : q * q ≤ r * r := Nat.mul_le_mul key key
  omega
/-- None of the numbers from 2 to k + 1 is a divisor. -/
def noDiv (n : Nat) : Nat → Bool
  | 0 => true
  | k + 1 => n % (k + 2) != 0 && noDiv n k
theorem noDiv_ok (n : Nat) : ∀ k, noDiv n k = true → ∀ d, 1 < d → d ≤ k + 1 → ¬ d ∣ n
  | 0, _, d, h1, h2 => by omega
  | k + 1, h, d, h1, h2 => by
    rw [noDiv, Bool.and_eq_true] at h
    by_cases hd : d = k + 2
    · intro hx
      have := Nat.mod_eq_zero_of_dvd hx
      rw [hd] at this
      rw [this] at h
      exact absurd h.1 (by decide)
    · exact noDiv_ok n k h.2 d h1 (by omega)
theorem pri4 : Pri 7930907 := by
  refine no_small (by decide) fun r hr hrr => noDiv_ok 7930907 2820 (by decide +kernel) r hr ?_
  apply Nat.le_of_not_lt
  intro h
  have : 2822 * 2822 ≤ r * r := Nat.mul_le_mul (by omega) (by omega)
  omega
theorem pri_step {n q : Nat} (a e : Nat) (hq : Pri q) (hq1 : 1 < q) (hn : 1 < n) (hqq : n < q * q) (he : e < 2 ^ 64) (hq2 : q < 2 ^ 64) (h1 : pm n 64 (pm n 64 a e 1) q 1 = 1) (h2 : Nat.gcd (pm n 64 a e 1 - 1) n = 1) (h3 : 0 < pm n 64 a e 1) : Pri n := by
  generalize pm n 64 a e 1 = b at *
  rw [pm_eq _ _ _ _ _ hq2, Nat.one_mul] at h1
  exact pri_of hn hq hq1 hqq h1 h2 h3
theorem pri3 : Pri 11864636873 := pri_step (q := 7930907) 2 1496 pri4 (by decide) (by decide) (by decide) (by decide) (by decide) (by decide +kernel) (by decide +kernel) (by decide +kernel)
theorem pri2 : Pri 1732236983459 := pri_step (q := 11864636873) 2 146 pri3 (by decide) (by decide) (by decide) (by decide) (by decide) (by decide +kernel) (by decide +kernel) (by decide +kernel)
theorem pri1 : Pri 249442125618097 := pri_step (q := 1732236983459) 2 144 pri2 (by decide) (by decide) (by decide) (by decide) (by decide) (by decide +kernel) (by decide +kernel) (by decide +kernel)
theorem priQ : Pri 2305843009213688669 := pri_step (q := 249442125618097) 2 9244 pri1 (by decide) (by decide) (by decide) (by decide) (by decide) (by decide +kernel) (by decide +kernel) (by decide +kernel)

/-- The powers of the generator. -/
def gP (n : Nat) : Int := ((4 ^ n % 4611686018427377339 : Nat) : Int)
theorem pow_order_mod (a m q : Nat) (h1 : 1 % m = 1) (h : a ^ q % m = 1) (n : Nat) : a ^ (n % q) % m = a ^ n % m := by
  have e : a ^ n = (a ^ q) ^ (n / q) * a ^ (n % q) := by rw [← Nat.pow_mul, ← Nat.pow_add, Nat.div_add_mod]
  rw [e, Nat.mul_mod, Nat.pow_mod (a ^ q), h, Nat.one_pow, h1, Nat.one_mul, Nat.mod_mod]
theorem gen_q : ∀ q : Nat, q = 2305843009213688669 → 4 ^ q % 4611686018427377339 = 1 := by
  intro q hq
  have h := gen_order
  rw [pw_eq _ _ (by decide)] at h
  rw [← hq] at h
  have e : (((4 ^ q % 4611686018427377339 : Nat)) : Int) = 1 := by
    rw [Int.natCast_emod, Int.natCast_pow]
    exact h
  omega
theorem gP_mod (n : Nat) : gP (n % 2305843009213688669) = gP n := by
  unfold gP
  obtain ⟨q, hq⟩ : ∃ q : Nat, q = 2305843009213688669 := ⟨_, rfl⟩
  rw [← hq, pow_order_mod 4 4611686018427377339 q (by decide) (gen_q q hq)]
theorem gP_pw (n : Nat) (h : n < 18446744073709551616) : pw 4 n = gP n := by
  rw [pw_eq _ _ h]
  unfold gP
  rw [Int.natCast_emod, Int.natCast_pow]
  rfl
theorem gP_nat (k : Int) (h : 0 ≤ k) : (k % 2305843009213688669).toNat = k.toNat % 2305843009213688669 := by omega
theorem base_gP (k : Int) (h : 0 ≤ k) : baseP k = gP k.toNat := by
  show pw (tk 4) _ = _
  rw [tk_of isP_gen, gP_pw _ (by omega), gP_nat k h, gP_mod]
theorem gP_base (n : Nat) : gP n = baseP n := by rw [base_gP _ (by omega), Int.toNat_natCast]
theorem gP_isP (n : Nat) : isP (gP n) = true := by rw [gP_base]; exact isP_base _
theorem gP_pn (n : Nat) : Pn (gP n) := (isP_order (gP_isP n)).2
theorem gP_mul (a b : Nat) : mulP (gP a) (gP b) = gP (a + b) := by
  unfold mulP gP
  rw [← Int.natCast_mul, Nat.pow_add]
  have e : (4611686018427377339 : Int) = ((4611686018427377339 : Nat) : Int) := rfl
  rw [e, ← Int.natCast_emod, ← Nat.mul_mod]
theorem gP_scale (a : Nat) (c : Int) (h : 0 ≤ c) : scaleP (gP a) c = gP (a * c.toNat) := by
  show pw (tk (gP a)) _ = _
  rw [tk_of (gP_isP a), pw_eq _ _ (by omega), gP_nat c h]
  obtain ⟨b, hb⟩ : ∃ b : Nat, b = c.toNat := ⟨_, rfl⟩
  rw [← hb]
  obtain ⟨d, hd⟩ : ∃ d : Nat, d = b % 2305843009213688669 := ⟨_, rfl⟩
  have hx : gP (a * b) = gP (a * d) := by rw [← gP_mod (a * b), ← gP_mod (a * d), Nat.mul_mod a b, Nat.mul_mod a d, hd, Nat.mod_mod]
  rw [hx, ← hd]
  unfold gP
  have e : (4611686018427377339 : Int) = ((4611686018427377339 : Nat) : Int) := rfl
  rw [e, ← Int.natCast_pow, ← Int.natCast_emod, ← Nat.pow_mod, ← Nat.pow_mul]
theorem gP_zero : gP 0 = 1 := by decide
theorem gP_ne {n : Nat} (h : 0 < n) (hn : n < 2305843009213688669) : gP n ≠ 1 := by
  intro he
  unfold gP at he
  have he : 4 ^ n % 4611686018427377339 = 1 := by omega
  obtain ⟨q, hq⟩ : ∃ q : Nat, q = 2305843009213688669 := ⟨_, rfl⟩
  have e := pow_gcd 4 4611686018427377339 (by decide) n q he (gen_q q hq)
  rw [pri_gcd (by rw [hq]; exact priQ) h (by omega)] at e
  exact absurd e (by decide)
/-- No two points of secrets next to one another are alike. -/
theorem gP_next (n : Nat) : gP (n + 1) ≠ gP n := by
  intro he
  obtain ⟨t, ht⟩ : ∃ t, (n + t) % 2305843009213688669 = 0 := ⟨2305843009213688669 - n % 2305843009213688669, by omega⟩
  have e1 : gP (n + t) = 1 := by rw [← gP_mod, ht]; exact gP_zero
  have e2 : mulP (gP (n + 1)) (gP t) = mulP (gP n) (gP t) := by rw [he]
  rw [gP_mul, gP_mul, e1, show n + 1 + t = (n + t) + 1 by omega, ← gP_mul, e1] at e2
  exact absurd e2 (by decide)
theorem base_next (s : Int) (h : 0 ≤ s) : baseP ((s % 2305843009213688669 + 1) % 2305843009213688669) ≠ baseP s := by
  rw [base_gP _ (by omega), base_gP _ h, ← gP_mod s.toNat]
  have e : ((s % 2305843009213688669 + 1) % 2305843009213688669).toNat = (s.toNat % 2305843009213688669 + 1) % 2305843009213688669 := by omega
  rw [e, gP_mod]
  exact gP_next _

/-- What is signed is verified. -/
theorem sign_ok (k : Int) (m : List Int) (h0 : 0 < k) (hq : k < 2305843009213688669) : checks (baseP k) m 1 (signQ k m) = true := by
  obtain ⟨kn, hk⟩ : ∃ kn : Nat, kn = k.toNat := ⟨_, rfl⟩
  have hb : baseP k = gP kn := by rw [hk]; exact base_gP k (by omega)
  have hn := fromQ_ok (tagN nNonce [be8 k, m])
  unfold signQ nonceQ
  rw [if_pos ⟨hq, by omega⟩]
  obtain ⟨n, hne⟩ : ∃ n, fromQ (tagN nNonce [be8 k, m]) = n := ⟨_, rfl⟩
  rw [hne] at hn ⊢
  unfold answerQ
  have hr : sumP [baseP n, 1] = gP n.toNat := by
    show mulP (mulP 1 (tk (baseP n))) (tk 1) = _
    rw [tk_of (isP_base n), tk_of isP_one, mul_one' (mulP_ok _ _), base_gP n (by omega), ← gP_zero, gP_mul, Nat.zero_add]
  rw [hr, hb]
  have hc := chalQ_ok (gP n.toNat) (gP kn) m
  obtain ⟨c, hce⟩ : ∃ c, chalQ (gP n.toNat) (gP kn) m = c := ⟨_, rfl⟩
  rw [hce] at hc ⊢
  have ha := addQ_ok n (mulQ c k)
  have h1 := hc.1
  have h2 := ha.1
  have h3 := ha.2
  unfold checks
  rw [if_neg (by
    intro h
    rcases h with h | h | h | h | h
    · exact gP_ne (by omega) (by omega) h
    · rw [gP_isP] at h; cases h
    · rw [isP_one] at h; cases h
    · have h : isP (gP n.toNat) = false := h
      rw [gP_isP] at h; cases h
    · exact h h3)]
  have e : baseP (addQ n (mulQ c k)) = sumP [gP n.toNat, scaleP (gP kn) c, negP 1] := by
    show _ = mulP (mulP (mulP 1 (tk (gP n.toNat))) (tk (scaleP (gP kn) c))) (tk (negP 1))
    rw [neg_one, tk_of isP_one, mul_one' (mulP_ok _ _), tk_of (gP_isP _), gP_scale _ _ h1, tk_of (gP_isP _)]
    rw [show (mulP 1 (gP n.toNat)) = gP n.toNat by rw [← gP_zero, gP_mul, Nat.zero_add]]
    rw [gP_mul, base_gP _ h2]
    have hx : (addQ n (mulQ c k)).toNat = (n.toNat + kn * c.toNat) % 2305843009213688669 := by
      unfold addQ mulQ ofQ
      have g1 : c % 2305843009213688669 = c := Int.emod_eq_of_lt h1 hc.2
      have g2 : k % 2305843009213688669 = k := Int.emod_eq_of_lt (by omega) hq
      have g3 : n % 2305843009213688669 = n := Int.emod_eq_of_lt (by omega) hn.2
      rw [g1, g2, g3, Int.emod_emod_of_dvd _ (Int.dvd_refl _)]
      have g4 : ((kn * c.toNat : Nat) : Int) = c * k := by
        rw [Int.natCast_mul, hk, Int.toNat_of_nonneg (by omega), Int.toNat_of_nonneg h1, Int.mul_comm]
      have g5 : 0 ≤ c * k := by rw [← g4]; exact Int.natCast_nonneg _
      obtain ⟨z, hz⟩ : ∃ z, c * k = z := ⟨_, rfl⟩
      rw [hz] at g4 g5 ⊢
      obtain ⟨zn, hzn⟩ : ∃ zn, kn * c.toNat = zn := ⟨_, rfl⟩
      rw [hzn] at g4 ⊢
      omega
    rw [hx, gP_mod]
  show decide (baseP (addQ n (mulQ c k)) = sumP [gP n.toNat, scaleP (gP kn) (chalQ (gP n.toNat) (gP kn) m), negP 1]) = true
  rw [hce]
  exact decide_eq_true e

end Go.Ab
