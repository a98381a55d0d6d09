/-
  Numbers: wrapping, words.
-/
import Derived.Test.YtdmpbapgnkdjpaaAb28
namespace Go.Ab

theorem i64_wrap {n : Int} (h1 : -9223372036854775808 ≤ n) (h2 : n ≤ 9223372036854775807) : IntKind.i64.wrap n = n := by
  simp [IntKind.wrap, IntKind.bits, IntKind.signed]
  split <;> omega

theorem iadd_i64 {x y : Int} (h1 : -9223372036854775808 ≤ x + y) (h2 : x + y ≤ 9223372036854775807) : iadd .i64 x y = x + y := i64_wrap h1 h2
theorem isub_i64 {x y : Int} (h1 : -9223372036854775808 ≤ x - y) (h2 : x - y ≤ 9223372036854775807) : isub .i64 x y = x - y := i64_wrap h1 h2
theorem imul_i64 {x y : Int} (h1 : -9223372036854775808 ≤ x * y) (h2 : x * y ≤ 9223372036854775807) : imul .i64 x y = x * y := i64_wrap h1 h2
theorem icv_i64 {x : Int} (h1 : -9223372036854775808 ≤ x) (h2 : x ≤ 9223372036854775807) : icv .i64 x = x := i64_wrap h1 h2

/-- A word as a number. -/
def vw {n : Nat} (w : BitVec n) : Int := (w.toNat : Int)

theorem vw_ofInt (n : Nat) (x : Int) : vw (BitVec.ofInt n x) = x % ((2 ^ n : Nat) : Int) := by
  unfold vw
  rw [BitVec.toNat_ofInt]
  have : 0 ≤ x % ((2 ^ n : Nat) : Int) := Int.emod_nonneg _ (by have := Nat.two_pow_pos n; omega)
  omega

theorem vw_nonneg {n : Nat} (w : BitVec n) : 0 ≤ vw w := Int.natCast_nonneg _
theorem vw_lt {n : Nat} (w : BitVec n) : vw w < ((2 ^ n : Nat) : Int) := by have := w.isLt; unfold vw; omega
theorem ofInt_vw {n : Nat} (w : BitVec n) : BitVec.ofInt n (vw w) = w := by
  apply BitVec.eq_of_toNat_eq
  have := vw_ofInt n (vw w)
  unfold vw at this ⊢
  have h := w.isLt
  rw [Int.emod_eq_of_lt (Int.natCast_nonneg _) (by omega)] at this
  omega
theorem vw_inj {n : Nat} {x y : BitVec n} (h : vw x = vw y) : x = y := by rw [← ofInt_vw x, h, ofInt_vw]

theorem wrap_u32 (x : Int) : IntKind.u32.wrap x = vw (BitVec.ofInt 32 x) := by rw [vw_ofInt]; simp [IntKind.wrap, IntKind.bits, IntKind.signed]
theorem wrap_u64 (x : Int) : IntKind.u64.wrap x = vw (BitVec.ofInt 64 x) := by rw [vw_ofInt]; simp [IntKind.wrap, IntKind.bits, IntKind.signed]
theorem wrap_u8 (x : Int) : IntKind.u8.wrap x = vw (BitVec.ofInt 8 x) := by rw [vw_ofInt]; simp [IntKind.wrap, IntKind.bits, IntKind.signed]
theorem wrap_u16 (x : Int) : IntKind.u16.wrap x = vw (BitVec.ofInt 16 x) := by rw [vw_ofInt]; simp [IntKind.wrap, IntKind.bits, IntKind.signed]

theorem ofInt_add (n : Nat) (x y : Int) : BitVec.ofInt n (x + y) = BitVec.ofInt n x + BitVec.ofInt n y := BitVec.ofInt_add ..
theorem iadd_u32 (x y : BitVec 32) : iadd .u32 (vw x) (vw y) = vw (x + y) := by rw [iadd, wrap_u32, BitVec.ofInt_add, ofInt_vw, ofInt_vw]
theorem iadd_u64 (x y : BitVec 64) : iadd .u64 (vw x) (vw y) = vw (x + y) := by rw [iadd, wrap_u64, BitVec.ofInt_add, ofInt_vw, ofInt_vw]
theorem icv_u32 (x : Int) : icv .u32 x = vw (BitVec.ofInt 32 x) := wrap_u32 x
theorem icv_u64 (x : Int) : icv .u64 x = vw (BitVec.ofInt 64 x) := wrap_u64 x
theorem icv_u8 (x : Int) : icv .u8 x = vw (BitVec.ofInt 8 x) := wrap_u8 x

theorem nat_vw {n : Nat} (x : BitVec n) : BitVec.ofInt n ((x.toNat : Nat) : Int) = x := ofInt_vw x

theorem bitop_u32 (op : BinOp) (x y : BitVec 32) : bitop op .u32 (vw x) (vw y) = vw (match op with | .and => x &&& y | .or => x ||| y | .xor => x ^^^ y | _ => x &&& ~~~y) := by
  unfold bitop
  split <;> (simp only [IntKind.bits, ofInt_vw, wrap_u32, nat_vw]; rfl)
theorem bitop_u64 (op : BinOp) (x y : BitVec 64) : bitop op .u64 (vw x) (vw y) = vw (match op with | .and => x &&& y | .or => x ||| y | .xor => x ^^^ y | _ => x &&& ~~~y) := by
  unfold bitop
  split <;> (simp only [IntKind.bits, ofInt_vw, wrap_u64, nat_vw]; rfl)
theorem bitop_u8 (op : BinOp) (x y : BitVec 8) : bitop op .u8 (vw x) (vw y) = vw (match op with | .and => x &&& y | .or => x ||| y | .xor => x ^^^ y | _ => x &&& ~~~y) := by
  unfold bitop
  split <;> (simp only [IntKind.bits, ofInt_vw, wrap_u8, nat_vw]; rfl)

theorem fdiv_nat (x y : Nat) : Int.fdiv (x : Int) (y : Int) = ((x / y : Nat) : Int) := by
  rw [Int.fdiv_eq_ediv_of_nonneg _ (Int.natCast_nonneg _)]
  rfl

theorem two_pow_cast (k : Nat) : (2 : Int) ^ k = ((2 ^ k : Nat) : Int) := by simp

theorem shr_vw {n : Nat} (w : BitVec n) (k : Nat) : Int.fdiv (vw w) (2 ^ (min k n)) = vw (w >>> k) := by
  rw [two_pow_cast]
  unfold vw
  rw [fdiv_nat, BitVec.toNat_ushiftRight, Nat.shiftRight_eq_div_pow]
  congr 1
  rcases Nat.le_total k n with hk | hk
  · rw [Nat.min_eq_left hk]
  · rw [Nat.min_eq_right hk, Nat.div_eq_of_lt w.isLt, Nat.div_eq_of_lt]
    exact Nat.lt_of_lt_of_le w.isLt (Nat.pow_le_pow_right (by omega) hk)

theorem ishr_u32 (w : BitVec 32) (k : Int) : ishr .u32 (vw w) k = vw (w >>> k.toNat) := shr_vw w k.toNat
theorem ishr_u64 (w : BitVec 64) (k : Int) : ishr .u64 (vw w) k = vw (w >>> k.toNat) := shr_vw w k.toNat
theorem ishr_u8 (w : BitVec 8) (k : Int) : ishr .u8 (vw w) k = vw (w >>> k.toNat) := shr_vw w k.toNat

theorem shl_vw {n : Nat} (w : BitVec n) (k : Nat) : BitVec.ofInt n (vw w * 2 ^ (min k n)) = w <<< k := by
  apply BitVec.eq_of_toNat_eq
  rw [BitVec.toNat_ofInt, BitVec.toNat_shiftLeft, Nat.shiftLeft_eq]
  unfold vw
  rw [two_pow_cast]
  have e : ((w.toNat : Int) * ((2 ^ min k n : Nat) : Int)) = ((w.toNat * 2 ^ min k n : Nat) : Int) := by simp
  rw [e]
  have : (((w.toNat * 2 ^ min k n : Nat) : Int) % ((2 ^ n : Nat) : Int)).toNat = (w.toNat * 2 ^ min k n) % 2 ^ n := by omega
  rw [this]
  rcases Nat.le_total k n with hk | hk
  · rw [Nat.min_eq_left hk]
  · rw [Nat.min_eq_right hk, Nat.mul_mod_left]
    obtain ⟨m, rfl⟩ := Nat.exists_eq_add_of_le hk
    rw [Nat.pow_add, ← Nat.mul_assoc, Nat.mul_right_comm, Nat.mul_mod_left]

theorem ishl_u32 (w : BitVec 32) (k : Int) : ishl .u32 (vw w) k = vw (w <<< k.toNat) := by rw [ishl, wrap_u32]; congr 1; exact shl_vw w k.toNat
theorem ishl_u64 (w : BitVec 64) (k : Int) : ishl .u64 (vw w) k = vw (w <<< k.toNat) := by rw [ishl, wrap_u64]; congr 1; exact shl_vw w k.toNat
theorem ishl_u8 (w : BitVec 8) (k : Int) : ishl .u8 (vw w) k = vw (w <<< k.toNat) := by rw [ishl, wrap_u8]; congr 1; exact shl_vw w k.toNat

/-! ### Tests -/

theorem inb_true {i n : Int} (h1 : 0 ≤ i) (h2 : i < n) : inb i n = true := by simp [inb, h1, h2]
theorem inc_true {i n : Int} (h1 : 0 ≤ i) (h2 : i ≤ n) : inc i n = true := by simp [inc, h1, h2]
theorem ilt_true {x y : Int} (h : x < y) : ilt x y = true := by simp [ilt, h]
theorem ilt_false {x y : Int} (h : ¬ x < y) : ilt x y = false := by simp [ilt]; omega
theorem ile_true {x y : Int} (h : x ≤ y) : ile x y = true := by simp [ile, h]
theorem ile_false {x y : Int} (h : ¬ x ≤ y) : ile x y = false := by simp [ile]; omega
theorem igt_true {x y : Int} (h : x > y) : igt x y = true := by simp [igt]; omega
theorem igt_false {x y : Int} (h : ¬ x > y) : igt x y = false := by simp [igt]; omega
theorem ige_true {x y : Int} (h : x ≥ y) : ige x y = true := by simp [ige]; omega
theorem ige_false {x y : Int} (h : ¬ x ≥ y) : ige x y = false := by simp [ige]; omega
theorem ieq_true {x y : Int} (h : x = y) : ieq x y = true := by simp [ieq, h]
theorem ieq_false {x y : Int} (h : ¬ x = y) : ieq x y = false := by simp [ieq, h]
theorem ine_true {x y : Int} (h : ¬ x = y) : ine x y = true := by simp [ine, h]
theorem ine_false {x y : Int} (h : x = y) : ine x y = false := by simp [ine, h]
theorem nonneg_true {x : Int} (h : 0 ≤ x) : nonneg x = true := by simp [nonneg, h]
theorem dec_true {p : Prop} [Decidable p] (h : p) : decide p = true := by simp [h]
theorem dec_false {p : Prop} [Decidable p] (h : ¬ p) : decide p = false := by simp [h]
theorem room_true {n b : Nat} (h : n * b ≤ 140737488355328) (h2 : n ≤ 9223372036854775807) : roomA n b = true := by simp [roomA, h, h2]

/-! ### Rows that are changed place by place -/

def from_ {α : Type} (f : Nat → α → α) (t : Nat) (l : List α) : List α := l.mapIdx fun i x => if i < t then x else f i x
theorem from_step {α : Type} (f : Nat → α → α) (l : List α) (t : Nat) (h : t < l.length) : from_ f (t + 1) (l.set t (f t l[t])) = from_ f t l := by
  unfold from_
  apply List.ext_getElem (by simp)
  intro i h1 h2
  simp only [List.getElem_mapIdx, List.getElem_set]
  by_cases hi : t = i
  · subst hi; simp
  · simp only [if_neg hi]
    by_cases h3 : i < t
    · rw [if_pos (by omega), if_pos h3]
    · rw [if_neg (by omega), if_neg h3]
theorem from_end {α : Type} (f : Nat → α → α) (l : List α) (t : Nat) (h : l.length ≤ t) : from_ f t l = l := by
  unfold from_
  apply List.ext_getElem (by simp)
  intro i h1 h2
  simp only [List.getElem_mapIdx]
  rw [if_pos (by omega)]

theorem from_replicate {α : Type} (f : Nat → α → α) (n : Nat) (x : α) : from_ f 0 (List.replicate n x) = (List.range n).map fun i => f i x := by
  unfold from_
  apply List.ext_getElem (by simp)
  intro i h1 h2
  simp

theorem nth_lt {t : Ty} {l : List t.den} {i : Nat} (h : i < l.length) : nth t l i = l[i] := by simp [nth, h]

end Go.Ab
