/-
  Made by a program of mine (wip/gen), and by hand.
-/
import Derived.Test.YtglpcfdjdabdnaaRa4
namespace Go.Ab
open Go.Proofs
set_option maxRecDepth 100000
set_option linter.unusedVariables false
set_option linter.unusedSimpArgs false



theorem u64_wrap {n : Int} (h1 : 0 ≤ n) (h2 : n < 18446744073709551616) : IntKind.u64.wrap n = n := by
  rw [wrap_u64, vw_ofInt]; omega
theorem u64_mod (n : Int) : IntKind.u64.wrap n = n % 18446744073709551616 := by
  rw [wrap_u64, vw_ofInt]; rfl
theorem iadd_um (x y : Int) : iadd .u64 x y = (x + y) % 18446744073709551616 := u64_mod _
theorem isub_um (x y : Int) : isub .u64 x y = (x - y) % 18446744073709551616 := u64_mod _
theorem imul_um (x y : Int) : imul .u64 x y = (x * y) % 18446744073709551616 := u64_mod _
theorem icv_um (x : Int) : icv .u64 x = x % 18446744073709551616 := u64_mod _
theorem and32 {x : Int} (h : 0 ≤ x) (h2 : x < 18446744073709551616) : bitop .and .u64 x 4294967295 = x % 4294967296 := by
  obtain ⟨n, rfl⟩ : ∃ n : Nat, x = n := ⟨x.toNat, by omega⟩
  have e : (BitVec.ofInt 64 (n : Int) &&& BitVec.ofInt 64 4294967295).toNat = n % 4294967296 := by
    rw [BitVec.toNat_and]
    have a : (BitVec.ofInt 64 (n : Int)).toNat = n := by rw [BitVec.ofInt_natCast, BitVec.toNat_ofNat]; omega
    have b : (BitVec.ofInt 64 4294967295).toNat = 2 ^ 32 - 1 := by decide
    rw [a, b, Nat.and_two_pow_sub_one_eq_mod]
  show IntKind.u64.wrap ((BitVec.ofInt 64 (n : Int) &&& BitVec.ofInt 64 4294967295).toNat : Int) = _
  rw [e, u64_wrap (by omega) (by omega)]; omega
theorem and1 {x : Int} (h : 0 ≤ x) (h2 : x < 18446744073709551616) : bitop .and .u64 x 1 = x % 2 := by
  obtain ⟨n, rfl⟩ : ∃ n : Nat, x = n := ⟨x.toNat, by omega⟩
  have e : (BitVec.ofInt 64 (n : Int) &&& BitVec.ofInt 64 1).toNat = n % 2 := by
    rw [BitVec.toNat_and]
    have a : (BitVec.ofInt 64 (n : Int)).toNat = n := by rw [BitVec.ofInt_natCast, BitVec.toNat_ofNat]; omega
    have b : (BitVec.ofInt 64 1).toNat = 2 ^ 1 - 1 := by decide
    rw [a, b, Nat.and_two_pow_sub_one_eq_mod]
  show IntKind.u64.wrap ((BitVec.ofInt 64 (n : Int) &&& BitVec.ofInt 64 1).toNat : Int) = _
  rw [e, u64_wrap (by omega) (by omega)]; omega
theorem shr_u64 {x k : Int} (n : Nat) (hk : k = n) (hn : n ≤ 64) : ishr .u64 x k = x / 2 ^ n := by
  subst hk
  rw [ishr]
  have e : min (Int.toNat (n : Int)) IntKind.u64.bits = n := by simp only [IntKind.bits]; omega
  rw [e, Int.fdiv_eq_ediv_of_nonneg _ (Int.le_of_lt (Int.pow_pos (by omega)))]
theorem shl_u64 {x k : Int} (n : Nat) (hk : k = n) (hn : n ≤ 64) : ishl .u64 x k = x * 2 ^ n % 18446744073709551616 := by
  subst hk
  rw [ishl, u64_mod]
  have e : min (Int.toNat (n : Int)) IntKind.u64.bits = n := by simp only [IntKind.bits]; omega
  rw [e]
/-- Of numbers whose bits lie apart. -/
theorem or_apart {x y : Int} (k : Nat) (m : Int) (hm : m = 2 ^ k) (hx : x % m = 0) (h0 : 0 ≤ x) (h1 : x < 18446744073709551616) (hy : 0 ≤ y) (hy2 : y < m) (h2 : x + y < 18446744073709551616) : bitop .or .u64 x y = x + y := by
  subst hm
  obtain ⟨n, rfl⟩ : ∃ n : Nat, x = n := ⟨x.toNat, by omega⟩
  obtain ⟨j, rfl⟩ : ∃ j : Nat, y = j := ⟨y.toNat, by omega⟩
  have hx : n % 2 ^ k = 0 := by
    have : ((n % 2 ^ k : Nat) : Int) = 0 := by rw [Int.natCast_emod]; simpa using hx
    omega
  have hj : j < 2 ^ k := by
    have : ((j : Nat) : Int) < ((2 ^ k : Nat) : Int) := by simpa using hy2
    omega
  obtain ⟨q, rfl⟩ : ∃ q, n = 2 ^ k * q := ⟨n / 2 ^ k, by have := Nat.div_add_mod n (2 ^ k); omega⟩
  have e : (BitVec.ofInt 64 ((2 ^ k * q : Nat) : Int) ||| BitVec.ofInt 64 (j : Int)).toNat = 2 ^ k * q + j := by
    rw [BitVec.toNat_or]
    have a : (BitVec.ofInt 64 ((2 ^ k * q : Nat) : Int)).toNat = 2 ^ k * q := by rw [BitVec.ofInt_natCast, BitVec.toNat_ofNat]; exact Nat.mod_eq_of_lt (by omega)
    have b : (BitVec.ofInt 64 (j : Int)).toNat = j := by rw [BitVec.ofInt_natCast, BitVec.toNat_ofNat]; exact Nat.mod_eq_of_lt (by omega)
    rw [a, b, Nat.two_pow_add_eq_or_of_lt hj]
  show IntKind.u64.wrap ((BitVec.ofInt 64 ((2 ^ k * q : Nat) : Int) ||| BitVec.ofInt 64 (j : Int)).toNat : Int) = _
  rw [e, u64_wrap (by omega) (by omega)]; omega
theorem iquo_nn {x y : Int} (h : 0 ≤ x) (h1 : 0 ≤ y) (h2 : x < 18446744073709551616) : iquo .u64 x y = x / y := by
  rw [iquo, Int.tdiv_eq_ediv_of_nonneg h]
  exact u64_wrap (Int.ediv_nonneg h h1) (Int.lt_of_le_of_lt (Int.ediv_le_self _ h) h2)
theorem irem_nn {x y : Int} (h : 0 ≤ x) : irem x y = x % y := by rw [irem, Int.tmod_eq_emod_of_nonneg h]
theorem k1 {e u w r q : Int} (he : e = 42260 ∨ e = 42264 ∨ e = 42272) (hu : 0 ≤ u) (hu2 : u < 18446744073709551616 - e) (hw : 0 ≤ w) (hw2 : w < 4294967296) (hr : 0 ≤ r) (hr2 : r < 4294967296)
    (hq : q * 4294967295 + r = u) (hQ : (u * 4294967296 + w) / (18446744073709551616 - e) ≤ q) :
    (4294967296 ≤ q → (u * 4294967296 + w) / (18446744073709551616 - e) ≤ q - 1) ∧
    (q < 4294967296 → 4294967296 * r + w < q * (4294967296 - e) → (u * 4294967296 + w) / (18446744073709551616 - e) ≤ q - 1) ∧
    (q < 4294967296 → q * (4294967296 - e) ≤ 4294967296 * r + w → (u * 4294967296 + w) / (18446744073709551616 - e) = q) ∧
    (4294967296 ≤ r + 4294967295 → (u * 4294967296 + w) / (18446744073709551616 - e) ≤ q - 1 → (u * 4294967296 + w) / (18446744073709551616 - e) = q - 1) ∧ 0 ≤ (u * 4294967296 + w) / (18446744073709551616 - e) ∧ q ≤ 4294967297 := by
  rcases he with rfl | rfl | rfl
  · refine ⟨?_, ?_, ?_, ?_, ?_, ?_⟩ <;> omega
  · refine ⟨?_, ?_, ?_, ?_, ?_, ?_⟩ <;> omega
  · refine ⟨?_, ?_, ?_, ?_, ?_, ?_⟩ <;> omega
/-- The first guess. -/
theorem k0 {e u w : Int} (he : e = 42260 ∨ e = 42264 ∨ e = 42272) (hu : 0 ≤ u) (hu2 : u < 18446744073709551616 - e) (hw : 0 ≤ w) (hw2 : w < 4294967296) :
    (u * 4294967296 + w) / (18446744073709551616 - e) ≤ u / 4294967295 ∧ 0 ≤ u - u / 4294967295 * 4294967295 ∧ u - u / 4294967295 * 4294967295 < 4294967296 ∧
    (u * 4294967296 + w) - (u * 4294967296 + w) / (18446744073709551616 - e) * (18446744073709551616 - e) = (u * 4294967296 + w) % (18446744073709551616 - e) ∧
    0 ≤ (u * 4294967296 + w) % (18446744073709551616 - e) ∧ (u * 4294967296 + w) % (18446744073709551616 - e) < 18446744073709551616 - e ∧
    0 ≤ (u * 4294967296 + w) / (18446744073709551616 - e) ∧ (u * 4294967296 + w) / (18446744073709551616 - e) < 4294967296 := by
  rcases he with rfl | rfl | rfl
  · refine ⟨?_, ?_, ?_, ?_, ?_, ?_, ?_, ?_⟩ <;> omega
  · refine ⟨?_, ?_, ?_, ?_, ?_, ?_, ?_, ?_⟩ <;> omega
  · refine ⟨?_, ?_, ?_, ?_, ?_, ?_, ?_, ?_⟩ <;> omega
/-- Two digits, one behind the other. -/
theorem kd (Y u w1 w0 : Int) (hY : 0 < Y) (h0 : 0 ≤ w0) (h1 : w0 < 4294967296) :
    ((u * 4294967296 + w1) * 4294967296 + w0) / Y = (u * 4294967296 + w1) / Y * 4294967296 + ((u * 4294967296 + w1) % Y * 4294967296 + w0) / Y ∧
    ((u * 4294967296 + w1) * 4294967296 + w0) % Y = ((u * 4294967296 + w1) % Y * 4294967296 + w0) % Y := by
  generalize u * 4294967296 + w1 = n
  have e : n * 4294967296 + w0 = (n % Y * 4294967296 + w0) + Y * (n / Y * 4294967296) := by
    have := Int.emod_add_mul_ediv n Y
    have h : Y * (n / Y * 4294967296) = (Y * (n / Y)) * 4294967296 := by rw [Int.mul_assoc]
    rw [h]; omega
  rw [e, Int.add_mul_ediv_left _ _ (by omega), Int.add_mul_emod_self_left]
  exact ⟨by omega, rfl⟩

/-! ### math/bits.Len64 -/
abbrev len64.D := Int
def len64.st : len64.D → List AVal × List Ent := fun x => ([.d (.int .u64) x], [])
abbrev len64.Y := Int
abbrev len64.X := Int
def len64.out : len64.X → GRes := fun x => ⟨.d (.int .i64) x, [], []⟩
def len64.add : len64.D → len64.Y → len64.X := fun x y => y


def isY (y : Int) : Prop := y = 4611686018427377339 ∨ y = 2305843009213688669 ∨ y = 2305843009213688668
def len64.Pre : len64.D → Prop := isY
def len64.F : len64.D → len64.Y := fun y => if y = 4611686018427377339 then 62 else 61

noncomputable def len64.G : Gam := gnil
noncomputable def len64.an : Ann := {
  objs := [],
  loops := fun r => { keep := [], sites := [], frz := [], data := [], owns := [] },
  outs := fun r b => { keep := [], sites := [], frz := [], data := [], owns := [] },
  sums := fun r => none,
  owns := [],
  trim := [],
  res := [] }
theorem len64.eq {R : Type} (x : Int) (k : GRes → Option R) : arun Try.prog len64.G len64.an 0 Try.f104 (len64.st x).1 (len64.st x).2 k =
  sel ((ige x (4294967296 : Int))) (
   sel ((ige (ishr .u64 x (32 : Int)) (65536 : Int))) (
    sel ((ige (ishr .u64 (ishr .u64 x (32 : Int)) (16 : Int)) (256 : Int))) (
     sel (inb (icv .u8 (ishr .u64 (ishr .u64 (ishr .u64 x (32 : Int)) (16 : Int)) (8 : Int))) (256 : Int)) (
     k (len64.out (iadd .i64 (56 : Int) (icv .i64 (sidx (⟨#[0, 1, 2, 2, 3, 3, 3, 3, 4, 4, 4, 4, 4, 4, 4, 4, 5, 5, 5, 5, 5, 5, 5, 5, 5, 5, 5, 5, 5, 5, 5, 5, 6, 6, 6, 6, 6, 6, 6, 6, 6, 6, 6, 6, 6, 6, 6, 6, 6, 6, 6, 6, 6, 6, 6, 6, 6, 6, 6, 6, 6, 6, 6, 6, 7, 7, 7, 7, 7, 7, 7, 7, 7, 7, 7, 7, 7, 7, 7, 7, 7, 7, 7, 7, 7, 7, 7, 7, 7, 7, 7, 7, 7, 7, 7, 7, 7, 7, 7, 7, 7, 7, 7, 7, 7, 7, 7, 7, 7, 7, 7, 7, 7, 7, 7, 7, 7, 7, 7, 7, 7, 7, 7, 7, 7, 7, 7, 7, 8, 8, 8, 8, 8, 8, 8, 8, 8, 8, 8, 8, 8, 8, 8, 8, 8, 8, 8, 8, 8, 8, 8, 8, 8, 8, 8, 8, 8, 8, 8, 8, 8, 8, 8, 8, 8, 8, 8, 8, 8, 8, 8, 8, 8, 8, 8, 8, 8, 8, 8, 8, 8, 8, 8, 8, 8, 8, 8, 8, 8, 8, 8, 8, 8, 8, 8, 8, 8, 8, 8, 8, 8, 8, 8, 8, 8, 8, 8, 8, 8, 8, 8, 8, 8, 8, 8, 8, 8, 8, 8, 8, 8, 8, 8, 8, 8, 8, 8, 8, 8, 8, 8, 8, 8, 8, 8, 8, 8, 8, 8, 8, 8, 8, 8, 8, 8, 8, 8, 8, 8, 8, 8, 8, 8, 8, 8, 8]⟩ : ByteArray) (icv .u8 (ishr .u64 (ishr .u64 (ishr .u64 x (32 : Int)) (16 : Int)) (8 : Int)))))))) none) (
     sel (inb (icv .u8 (ishr .u64 (ishr .u64 x (32 : Int)) (16 : Int))) (256 : Int)) (
     k (len64.out (iadd .i64 (48 : Int) (icv .i64 (sidx (⟨#[0, 1, 2, 2, 3, 3, 3, 3, 4, 4, 4, 4, 4, 4, 4, 4, 5, 5, 5, 5, 5, 5, 5, 5, 5, 5, 5, 5, 5, 5, 5, 5, 6, 6, 6, 6, 6, 6, 6, 6, 6, 6, 6, 6, 6, 6, 6, 6, 6, 6, 6, 6, 6, 6, 6, 6, 6, 6, 6, 6, 6, 6, 6, 6, 7, 7, 7, 7, 7, 7, 7, 7, 7, 7, 7, 7, 7, 7, 7, 7, 7, 7, 7, 7, 7, 7, 7, 7, 7, 7, 7, 7, 7, 7, 7, 7, 7, 7, 7, 7, 7, 7, 7, 7, 7, 7, 7, 7, 7, 7, 7, 7, 7, 7, 7, 7, 7, 7, 7, 7, 7, 7, 7, 7, 7, 7, 7, 7, 8, 8, 8, 8, 8, 8, 8, 8, 8, 8, 8, 8, 8, 8, 8, 8, 8, 8, 8, 8, 8, 8, 8, 8, 8, 8, 8, 8, 8, 8, 8, 8, 8, 8, 8, 8, 8, 8, 8, 8, 8, 8, 8, 8, 8, 8, 8, 8, 8, 8, 8, 8, 8, 8, 8, 8, 8, 8, 8, 8, 8, 8, 8, 8, 8, 8, 8, 8, 8, 8, 8, 8, 8, 8, 8, 8, 8, 8, 8, 8, 8, 8, 8, 8, 8, 8, 8, 8, 8, 8, 8, 8, 8, 8, 8, 8, 8, 8, 8, 8, 8, 8, 8, 8, 8, 8, 8, 8, 8, 8, 8, 8, 8, 8, 8, 8, 8, 8, 8, 8, 8, 8, 8, 8, 8, 8, 8, 8]⟩ : ByteArray) (icv .u8 (ishr .u64 (ishr .u64 x (32 : Int)) (16 : Int)))))))) none)) (
    sel ((ige (ishr .u64 x (32 : Int)) (256 : Int))) (
     sel (inb (icv .u8 (ishr .u64 (ishr .u64 x (32 : Int)) (8 : Int))) (256 : Int)) (
     k (len64.out (iadd .i64 (40 : Int) (icv .i64 (sidx (⟨#[0, 1, 2, 2, 3, 3, 3, 3, 4, 4, 4, 4, 4, 4, 4, 4, 5, 5, 5, 5, 5, 5, 5, 5, 5, 5, 5, 5, 5, 5, 5, 5, 6, 6, 6, 6, 6, 6, 6, 6, 6, 6, 6, 6, 6, 6, 6, 6, 6, 6, 6, 6, 6, 6, 6, 6, 6, 6, 6, 6, 6, 6, 6, 6, 7, 7, 7, 7, 7, 7, 7, 7, 7, 7, 7, 7, 7, 7, 7, 7, 7, 7, 7, 7, 7, 7, 7, 7, 7, 7, 7, 7, 7, 7, 7, 7, 7, 7, 7, 7, 7, 7, 7, 7, 7, 7, 7, 7, 7, 7, 7, 7, 7, 7, 7, 7, 7, 7, 7, 7, 7, 7, 7, 7, 7, 7, 7, 7, 8, 8, 8, 8, 8, 8, 8, 8, 8, 8, 8, 8, 8, 8, 8, 8, 8, 8, 8, 8, 8, 8, 8, 8, 8, 8, 8, 8, 8, 8, 8, 8, 8, 8, 8, 8, 8, 8, 8, 8, 8, 8, 8, 8, 8, 8, 8, 8, 8, 8, 8, 8, 8, 8, 8, 8, 8, 8, 8, 8, 8, 8, 8, 8, 8, 8, 8, 8, 8, 8, 8, 8, 8, 8, 8, 8, 8, 8, 8, 8, 8, 8, 8, 8, 8, 8, 8, 8, 8, 8, 8, 8, 8, 8, 8, 8, 8, 8, 8, 8, 8, 8, 8, 8, 8, 8, 8, 8, 8, 8, 8, 8, 8, 8, 8, 8, 8, 8, 8, 8, 8, 8, 8, 8, 8, 8, 8, 8]⟩ : ByteArray) (icv .u8 (ishr .u64 (ishr .u64 x (32 : Int)) (8 : Int)))))))) none) (
     sel (inb (icv .u8 (ishr .u64 x (32 : Int))) (256 : Int)) (
     k (len64.out (iadd .i64 (32 : Int) (icv .i64 (sidx (⟨#[0, 1, 2, 2, 3, 3, 3, 3, 4, 4, 4, 4, 4, 4, 4, 4, 5, 5, 5, 5, 5, 5, 5, 5, 5, 5, 5, 5, 5, 5, 5, 5, 6, 6, 6, 6, 6, 6, 6, 6, 6, 6, 6, 6, 6, 6, 6, 6, 6, 6, 6, 6, 6, 6, 6, 6, 6, 6, 6, 6, 6, 6, 6, 6, 7, 7, 7, 7, 7, 7, 7, 7, 7, 7, 7, 7, 7, 7, 7, 7, 7, 7, 7, 7, 7, 7, 7, 7, 7, 7, 7, 7, 7, 7, 7, 7, 7, 7, 7, 7, 7, 7, 7, 7, 7, 7, 7, 7, 7, 7, 7, 7, 7, 7, 7, 7, 7, 7, 7, 7, 7, 7, 7, 7, 7, 7, 7, 7, 8, 8, 8, 8, 8, 8, 8, 8, 8, 8, 8, 8, 8, 8, 8, 8, 8, 8, 8, 8, 8, 8, 8, 8, 8, 8, 8, 8, 8, 8, 8, 8, 8, 8, 8, 8, 8, 8, 8, 8, 8, 8, 8, 8, 8, 8, 8, 8, 8, 8, 8, 8, 8, 8, 8, 8, 8, 8, 8, 8, 8, 8, 8, 8, 8, 8, 8, 8, 8, 8, 8, 8, 8, 8, 8, 8, 8, 8, 8, 8, 8, 8, 8, 8, 8, 8, 8, 8, 8, 8, 8, 8, 8, 8, 8, 8, 8, 8, 8, 8, 8, 8, 8, 8, 8, 8, 8, 8, 8, 8, 8, 8, 8, 8, 8, 8, 8, 8, 8, 8, 8, 8, 8, 8, 8, 8, 8, 8]⟩ : ByteArray) (icv .u8 (ishr .u64 x (32 : Int)))))))) none))) (
   sel ((ige x (65536 : Int))) (
    sel ((ige (ishr .u64 x (16 : Int)) (256 : Int))) (
     sel (inb (icv .u8 (ishr .u64 (ishr .u64 x (16 : Int)) (8 : Int))) (256 : Int)) (
     k (len64.out (iadd .i64 (24 : Int) (icv .i64 (sidx (⟨#[0, 1, 2, 2, 3, 3, 3, 3, 4, 4, 4, 4, 4, 4, 4, 4, 5, 5, 5, 5, 5, 5, 5, 5, 5, 5, 5, 5, 5, 5, 5, 5, 6, 6, 6, 6, 6, 6, 6, 6, 6, 6, 6, 6, 6, 6, 6, 6, 6, 6, 6, 6, 6, 6, 6, 6, 6, 6, 6, 6, 6, 6, 6, 6, 7, 7, 7, 7, 7, 7, 7, 7, 7, 7, 7, 7, 7, 7, 7, 7, 7, 7, 7, 7, 7, 7, 7, 7, 7, 7, 7, 7, 7, 7, 7, 7, 7, 7, 7, 7, 7, 7, 7, 7, 7, 7, 7, 7, 7, 7, 7, 7, 7, 7, 7, 7, 7, 7, 7, 7, 7, 7, 7, 7, 7, 7, 7, 7, 8, 8, 8, 8, 8, 8, 8, 8, 8, 8, 8, 8, 8, 8, 8, 8, 8, 8, 8, 8, 8, 8, 8, 8, 8, 8, 8, 8, 8, 8, 8, 8, 8, 8, 8, 8, 8, 8, 8, 8, 8, 8, 8, 8, 8, 8, 8, 8, 8, 8, 8, 8, 8, 8, 8, 8, 8, 8, 8, 8, 8, 8, 8, 8, 8, 8, 8, 8, 8, 8, 8, 8, 8, 8, 8, 8, 8, 8, 8, 8, 8, 8, 8, 8, 8, 8, 8, 8, 8, 8, 8, 8, 8, 8, 8, 8, 8, 8, 8, 8, 8, 8, 8, 8, 8, 8, 8, 8, 8, 8, 8, 8, 8, 8, 8, 8, 8, 8, 8, 8, 8, 8, 8, 8, 8, 8, 8, 8]⟩ : ByteArray) (icv .u8 (ishr .u64 (ishr .u64 x (16 : Int)) (8 : Int)))))))) none) (
     sel (inb (icv .u8 (ishr .u64 x (16 : Int))) (256 : Int)) (
     k (len64.out (iadd .i64 (16 : Int) (icv .i64 (sidx (⟨#[0, 1, 2, 2, 3, 3, 3, 3, 4, 4, 4, 4, 4, 4, 4, 4, 5, 5, 5, 5, 5, 5, 5, 5, 5, 5, 5, 5, 5, 5, 5, 5, 6, 6, 6, 6, 6, 6, 6, 6, 6, 6, 6, 6, 6, 6, 6, 6, 6, 6, 6, 6, 6, 6, 6, 6, 6, 6, 6, 6, 6, 6, 6, 6, 7, 7, 7, 7, 7, 7, 7, 7, 7, 7, 7, 7, 7, 7, 7, 7, 7, 7, 7, 7, 7, 7, 7, 7, 7, 7, 7, 7, 7, 7, 7, 7, 7, 7, 7, 7, 7, 7, 7, 7, 7, 7, 7, 7, 7, 7, 7, 7, 7, 7, 7, 7, 7, 7, 7, 7, 7, 7, 7, 7, 7, 7, 7, 7, 8, 8, 8, 8, 8, 8, 8, 8, 8, 8, 8, 8, 8, 8, 8, 8, 8, 8, 8, 8, 8, 8, 8, 8, 8, 8, 8, 8, 8, 8, 8, 8, 8, 8, 8, 8, 8, 8, 8, 8, 8, 8, 8, 8, 8, 8, 8, 8, 8, 8, 8, 8, 8, 8, 8, 8, 8, 8, 8, 8, 8, 8, 8, 8, 8, 8, 8, 8, 8, 8, 8, 8, 8, 8, 8, 8, 8, 8, 8, 8, 8, 8, 8, 8, 8, 8, 8, 8, 8, 8, 8, 8, 8, 8, 8, 8, 8, 8, 8, 8, 8, 8, 8, 8, 8, 8, 8, 8, 8, 8, 8, 8, 8, 8, 8, 8, 8, 8, 8, 8, 8, 8, 8, 8, 8, 8, 8, 8]⟩ : ByteArray) (icv .u8 (ishr .u64 x (16 : Int)))))))) none)) (
    sel ((ige x (256 : Int))) (
     sel (inb (icv .u8 (ishr .u64 x (8 : Int))) (256 : Int)) (
     k (len64.out (iadd .i64 (8 : Int) (icv .i64 (sidx (⟨#[0, 1, 2, 2, 3, 3, 3, 3, 4, 4, 4, 4, 4, 4, 4, 4, 5, 5, 5, 5, 5, 5, 5, 5, 5, 5, 5, 5, 5, 5, 5, 5, 6, 6, 6, 6, 6, 6, 6, 6, 6, 6, 6, 6, 6, 6, 6, 6, 6, 6, 6, 6, 6, 6, 6, 6, 6, 6, 6, 6, 6, 6, 6, 6, 7, 7, 7, 7, 7, 7, 7, 7, 7, 7, 7, 7, 7, 7, 7, 7, 7, 7, 7, 7, 7, 7, 7, 7, 7, 7, 7, 7, 7, 7, 7, 7, 7, 7, 7, 7, 7, 7, 7, 7, 7, 7, 7, 7, 7, 7, 7, 7, 7, 7, 7, 7, 7, 7, 7, 7, 7, 7, 7, 7, 7, 7, 7, 7, 8, 8, 8, 8, 8, 8, 8, 8, 8, 8, 8, 8, 8, 8, 8, 8, 8, 8, 8, 8, 8, 8, 8, 8, 8, 8, 8, 8, 8, 8, 8, 8, 8, 8, 8, 8, 8, 8, 8, 8, 8, 8, 8, 8, 8, 8, 8, 8, 8, 8, 8, 8, 8, 8, 8, 8, 8, 8, 8, 8, 8, 8, 8, 8, 8, 8, 8, 8, 8, 8, 8, 8, 8, 8, 8, 8, 8, 8, 8, 8, 8, 8, 8, 8, 8, 8, 8, 8, 8, 8, 8, 8, 8, 8, 8, 8, 8, 8, 8, 8, 8, 8, 8, 8, 8, 8, 8, 8, 8, 8, 8, 8, 8, 8, 8, 8, 8, 8, 8, 8, 8, 8, 8, 8, 8, 8, 8, 8]⟩ : ByteArray) (icv .u8 (ishr .u64 x (8 : Int)))))))) none) (
     sel (inb (icv .u8 x) (256 : Int)) (
     k (len64.out (iadd .i64 (0 : Int) (icv .i64 (sidx (⟨#[0, 1, 2, 2, 3, 3, 3, 3, 4, 4, 4, 4, 4, 4, 4, 4, 5, 5, 5, 5, 5, 5, 5, 5, 5, 5, 5, 5, 5, 5, 5, 5, 6, 6, 6, 6, 6, 6, 6, 6, 6, 6, 6, 6, 6, 6, 6, 6, 6, 6, 6, 6, 6, 6, 6, 6, 6, 6, 6, 6, 6, 6, 6, 6, 7, 7, 7, 7, 7, 7, 7, 7, 7, 7, 7, 7, 7, 7, 7, 7, 7, 7, 7, 7, 7, 7, 7, 7, 7, 7, 7, 7, 7, 7, 7, 7, 7, 7, 7, 7, 7, 7, 7, 7, 7, 7, 7, 7, 7, 7, 7, 7, 7, 7, 7, 7, 7, 7, 7, 7, 7, 7, 7, 7, 7, 7, 7, 7, 8, 8, 8, 8, 8, 8, 8, 8, 8, 8, 8, 8, 8, 8, 8, 8, 8, 8, 8, 8, 8, 8, 8, 8, 8, 8, 8, 8, 8, 8, 8, 8, 8, 8, 8, 8, 8, 8, 8, 8, 8, 8, 8, 8, 8, 8, 8, 8, 8, 8, 8, 8, 8, 8, 8, 8, 8, 8, 8, 8, 8, 8, 8, 8, 8, 8, 8, 8, 8, 8, 8, 8, 8, 8, 8, 8, 8, 8, 8, 8, 8, 8, 8, 8, 8, 8, 8, 8, 8, 8, 8, 8, 8, 8, 8, 8, 8, 8, 8, 8, 8, 8, 8, 8, 8, 8, 8, 8, 8, 8, 8, 8, 8, 8, 8, 8, 8, 8, 8, 8, 8, 8, 8, 8, 8, 8, 8, 8]⟩ : ByteArray) (icv .u8 x)))))) none))) := by kernel_rfl


theorem len64.ok : ∀ d, len64.Pre d → arun Try.prog len64.G len64.an 0 Try.f104 (len64.st d).1 (len64.st d).2 some = some (len64.out (len64.add d (len64.F d))) := by
  intro y h
  rw [len64.eq]
  obtain rfl | rfl | rfl := h <;> kernel_rfl

theorem len64.inj : ∀ d d', len64.st d = len64.st d' → d = d' := fun x x' hEq => by
  have e0 : x = x' := d_inj (t := (.int .u64)) (congrArg (fun s : List AVal × List Ent => (s.1.getD 0 .undef)) hEq)
  rw [e0]
noncomputable def len64.E : Entry := Entry.of [some (.int .u64)] len64.st len64.Pre (fun d => len64.add d (len64.F d)) len64.out
noncomputable def len64.call : len64.D → Option len64.X := fun d => len64.E.run (len64.st d).1 (len64.st d).2
theorem len64.run {d : len64.D} (h : len64.Pre d) : len64.call d = some (len64.add d (len64.F d)) := Entry.of_run len64.inj h
theorem len64.does : Does Try.prog 104 len64.E := Does.of (by kernel_rfl) (show Sound _ len64.G from Sound.nil _) (by kernel_rfl) (by kernel_rfl) (by kernel_rfl) (LOk.fn 0 (by kernel_rfl) trivial) len64.ok

/-! ### math/bits.LeadingZeros64 -/
abbrev lz64.D := Int
def lz64.st : lz64.D → List AVal × List Ent := fun x => ([.d (.int .u64) x], [])
abbrev lz64.Y := Int
abbrev lz64.X := Int
def lz64.out : lz64.X → GRes := fun x => ⟨.d (.int .i64) x, [], []⟩
def lz64.add : lz64.D → lz64.Y → lz64.X := fun x y => y


def lz64.Pre : lz64.D → Prop := isY
def lz64.F : lz64.D → lz64.Y := fun y => if y = 4611686018427377339 then 2 else 3

noncomputable def lz64.G : Gam := gcons 104 anyArgs len64.E (gnil)
noncomputable def lz64.an : Ann := {
  objs := [],
  loops := fun r => { keep := [], sites := [], frz := [], data := [], owns := [] },
  outs := fun r b => { keep := [], sites := [], frz := [], data := [], owns := [] },
  sums := fun r => none,
  owns := [],
  trim := [],
  res := [] }
theorem lz64.eq {R : Type} (x : Int) (k : GRes → Option R) : arun Try.prog lz64.G lz64.an 0 Try.f100 (lz64.st x).1 (lz64.st x).2 k =
  obind (len64.call x) fun x1 =>
  k (lz64.out (isub .i64 (64 : Int) x1)) := by kernel_rfl


theorem lz64.ok : ∀ d, lz64.Pre d → arun Try.prog lz64.G lz64.an 0 Try.f100 (lz64.st d).1 (lz64.st d).2 some = some (lz64.out (lz64.add d (lz64.F d))) := by
  intro y h
  rw [lz64.eq, len64.run (d := y) h]
  obtain rfl | rfl | rfl := h <;> rfl

theorem lz64.inj : ∀ d d', lz64.st d = lz64.st d' → d = d' := fun x x' hEq => by
  have e0 : x = x' := d_inj (t := (.int .u64)) (congrArg (fun s : List AVal × List Ent => (s.1.getD 0 .undef)) hEq)
  rw [e0]
noncomputable def lz64.E : Entry := Entry.of [some (.int .u64)] lz64.st lz64.Pre (fun d => lz64.add d (lz64.F d)) lz64.out
noncomputable def lz64.call : lz64.D → Option lz64.X := fun d => lz64.E.run (lz64.st d).1 (lz64.st d).2
theorem lz64.run {d : lz64.D} (h : lz64.Pre d) : lz64.call d = some (lz64.add d (lz64.F d)) := Entry.of_run lz64.inj h
theorem lz64.does : Does Try.prog 100 lz64.E := Does.of (by kernel_rfl) (show Sound _ lz64.G from Sound.cons len64.does (Sound.nil _)) (by kernel_rfl) (by kernel_rfl) (by kernel_rfl) (LOk.fn 0 (by kernel_rfl) trivial) lz64.ok

end Go.Ab
