/-
  Numbers and tests for the simplifier, with side conditions that linear arithmetic closes.
-/
import Derived.Test.YtdmpbapgnkdjpaaAb29
namespace Go.Ab.N

section
variable {α : Type} {x y : Option α} {a b n : Nat} {i j : Int}
theorem lt : sel (ilt i j) x y = if i < j then x else y := by unfold ilt; split <;> rename_i h <;> simp [h]
theorem le : sel (ile i j) x y = if i ≤ j then x else y := by unfold ile; split <;> rename_i h <;> simp [h]
theorem gt : sel (igt i j) x y = if j < i then x else y := by unfold igt; split <;> rename_i h <;> simp [h]
theorem ge : sel (ige i j) x y = if j ≤ i then x else y := by unfold ige; split <;> rename_i h <;> simp [h]
theorem eq : sel (ieq i j) x y = if i = j then x else y := by
  by_cases h : i = j
  · rw [ieq_true h, if_pos h]; rfl
  · rw [ieq_false h, if_neg h]; rfl
theorem ne : sel (ine i j) x y = if i = j then y else x := by
  by_cases h : i = j
  · rw [ine_false h, if_pos h]; rfl
  · rw [ine_true h, if_neg h]; rfl
theorem ib : sel (inb i j) x y = if 0 ≤ i ∧ i < j then x else y := by unfold inb; split <;> rename_i h <;> simp [h]
theorem ic : sel (inc i j) x y = if 0 ≤ i ∧ i ≤ j then x else y := by unfold inc; split <;> rename_i h <;> simp [h]
theorem nn : sel (nonneg i) x y = if 0 ≤ i then x else y := by unfold nonneg; split <;> rename_i h <;> simp [h]
theorem nz : sel (nonzero i) x y = if i = 0 then y else x := by unfold nonzero; split <;> rename_i h <;> simp [h]
theorem dc {p : Prop} [Decidable p] : sel (decide p) x y = if p then x else y := by split <;> rename_i h <;> simp [h]
theorem rm : sel (roomA n b) x y = if n * b ≤ 140737488355328 ∧ n ≤ 9223372036854775807 then x else y := by unfold roomA; exact dc
theorem an {c d : Bool} : sel (c && d) x y = sel c (sel d x y) y := by cases c <;> rfl
theorem or {c d : Bool} : sel (c || d) x y = sel c x (sel d x y) := by cases c <;> rfl
theorem no {c : Bool} : sel (!c) x y = sel c y x := by cases c <;> rfl
theorem cd {c d e : Bool} : sel (cond c d e) x y = sel c (sel d x y) (sel e x y) := by cases c <;> rfl

theorem aNN (h : a + b ≤ 9223372036854775807) : iadd .i64 (a : Int) (b : Int) = ((a + b : Nat) : Int) := by rw [iadd_i64 (by omega) (by omega)]; omega
theorem aNL (h : a + OfNat.ofNat n ≤ 9223372036854775807) : iadd .i64 (a : Int) (no_index (OfNat.ofNat n)) = ((a + OfNat.ofNat n : Nat) : Int) := aNN h
theorem aLN (h : OfNat.ofNat n + a ≤ 9223372036854775807) : iadd .i64 (no_index (OfNat.ofNat n)) (a : Int) = ((OfNat.ofNat n + a : Nat) : Int) := aNN h
theorem sNN (h : b ≤ a) (h2 : a ≤ 9223372036854775807) : isub .i64 (a : Int) (b : Int) = ((a - b : Nat) : Int) := by rw [isub_i64 (by omega) (by omega)]; omega
theorem sNL (h : OfNat.ofNat n ≤ a) (h2 : a ≤ 9223372036854775807) : isub .i64 (a : Int) (no_index (OfNat.ofNat n)) = ((a - OfNat.ofNat n : Nat) : Int) := sNN h h2
theorem sLN (h : a ≤ OfNat.ofNat n) (h2 : (OfNat.ofNat n : Nat) ≤ 9223372036854775807) : isub .i64 (no_index (OfNat.ofNat n)) (a : Int) = ((OfNat.ofNat n - a : Nat) : Int) := sNN h h2
theorem mNN (h : a * b ≤ 9223372036854775807) : imul .i64 (a : Int) (b : Int) = ((a * b : Nat) : Int) := by
  have e : (a : Int) * (b : Int) = ((a * b : Nat) : Int) := by simp
  rw [imul_i64 (by omega) (by omega), e]
theorem mNL (h : a * OfNat.ofNat n ≤ 9223372036854775807) : imul .i64 (a : Int) (no_index (OfNat.ofNat n)) = ((a * OfNat.ofNat n : Nat) : Int) := mNN h
theorem mLN (h : OfNat.ofNat n * a ≤ 9223372036854775807) : imul .i64 (no_index (OfNat.ofNat n)) (a : Int) = ((OfNat.ofNat n * a : Nat) : Int) := mNN h
theorem qNN (h : a ≤ 9223372036854775807) : iquo .i64 (a : Int) (b : Int) = ((a / b : Nat) : Int) := by
  have : (a : Int).tdiv (b : Int) = ((a / b : Nat) : Int) := by rw [Int.tdiv_eq_ediv_of_nonneg (by omega)]; simp
  have hl : a / b ≤ a := Nat.div_le_self a b
  unfold iquo
  rw [this]
  generalize a / b = c at hl
  exact i64_wrap (by omega) (by omega)
theorem qNL (h : a ≤ 9223372036854775807) : iquo .i64 (a : Int) (no_index (OfNat.ofNat n)) = ((a / OfNat.ofNat n : Nat) : Int) := qNN h
theorem rNN : irem (a : Int) (b : Int) = ((a % b : Nat) : Int) := by
  unfold irem
  rw [Int.tmod_eq_emod_of_nonneg (by omega)]
  simp
theorem rNL : irem (a : Int) (no_index (OfNat.ofNat n)) = ((a % OfNat.ofNat n : Nat) : Int) := rNN
theorem cN (h : a ≤ 9223372036854775807) : icv .i64 (a : Int) = (a : Int) := icv_i64 (by omega) (by omega)
theorem cL (h : (OfNat.ofNat n : Nat) ≤ 9223372036854775807) : icv .i64 (no_index (OfNat.ofNat n)) = OfNat.ofNat n := cN h
theorem tL : Int.toNat (no_index (OfNat.ofNat n)) = OfNat.ofNat n := rfl
end
end Go.Ab.N
