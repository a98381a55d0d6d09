/-
  Made by a program of mine (wip/gen), and by hand.
-/
import Derived.Test.YtglpcfdjdabdnaaRd1
namespace Go.Ab
open Go.Proofs
set_option maxRecDepth 100000
set_option linter.unusedVariables false
set_option linter.unusedSimpArgs false


/-- A number that stands next: its value, and how many digits it has. -/
def numF : List Int → Nat → Int → (Int × Nat) ⊕ Unit
  | [], _, _ => .inr ()
  | d :: l, a, n => if 8 < a ∨ (0 < a ∧ d = 0) then .inr () else if d < 128 then .inl (n + d % 128 * 128 ^ a, a + 1) else numF l (a + 1) (n + d % 128 * 128 ^ a)
def numR (r : Rdr) : Int × Rdr := match numF r.1 0 0 with | .inl v => (v.1, (r.1.drop v.2, r.2)) | .inr _ => (0, failR)
theorem pow128 (k : Nat) : (128 : Int) ^ k = ((128 ^ k : Nat) : Int) := by rw [Int.natCast_pow]; rfl
theorem digit_or {n d k : Nat} (hk : k ≤ 8) (hn : n < 128 ^ k) (hd : d < 128) : bitop .or .i64 (n : Int) (ishl .i64 (d : Int) ((7 * k : Nat) : Int)) = ((n + d * 128 ^ k : Nat) : Int) ∧ n + d * 128 ^ k < 128 ^ (k + 1) ∧ 128 ^ (k + 1) ≤ 9223372036854775808 := by
  have p : 128 ^ k ≤ 128 ^ 8 := Nat.pow_le_pow_right (by decide) hk
  have p8 : 128 ^ 8 = 72057594037927936 := rfl
  have e1 : 128 ^ (k + 1) = 128 ^ k * 128 := Nat.pow_succ (n := 128) (m := k)
  have e2 : 2 ^ (7 * k) = 128 ^ k := by rw [Nat.pow_mul]
  have e3 : d * 128 ^ k ≤ 127 * 128 ^ k := Nat.mul_le_mul_right _ (by omega)
  refine ⟨?_, by omega, by omega⟩
  have s : ishl .i64 (d : Int) ((7 * k : Nat) : Int) = ((d * 128 ^ k : Nat) : Int) := by
    rw [ishl]
    have e : min (Int.toNat ((7 * k : Nat) : Int)) IntKind.i64.bits = 7 * k := by simp only [IntKind.bits, Int.toNat_natCast]; omega
    rw [e, show (2 : Int) ^ (7 * k) = ((2 ^ (7 * k) : Nat) : Int) by rw [Int.natCast_pow]; rfl, e2, ← Int.natCast_mul]
    exact i64_wrap (by omega) (by omega)
  rw [s]
  have e : (BitVec.ofInt 64 (n : Int) ||| BitVec.ofInt 64 ((d * 128 ^ k : Nat) : Int)).toNat = n + d * 128 ^ k := by
    rw [BitVec.toNat_or]
    have a : (BitVec.ofInt 64 ((d * 128 ^ k : Nat) : Int)).toNat = 2 ^ (7 * k) * d := by rw [BitVec.ofInt_natCast, BitVec.toNat_ofNat, e2, Nat.mul_comm]; exact Nat.mod_eq_of_lt (by rw [Nat.mul_comm]; omega)
    have b : (BitVec.ofInt 64 (n : Int)).toNat = n := by rw [BitVec.ofInt_natCast, BitVec.toNat_ofNat]; exact Nat.mod_eq_of_lt (by omega)
    rw [a, b, Nat.or_comm, ← Nat.two_pow_add_eq_or_of_lt (by rw [e2]; exact hn), e2, Nat.mul_comm]
    omega
  show IntKind.i64.wrap ((BitVec.ofInt 64 (n : Int) ||| BitVec.ofInt 64 ((d * 128 ^ k : Nat) : Int)).toNat : Int) = _
  rw [e]
  exact i64_wrap (by omega) (by omega)
theorem numF_ok : ∀ (l : List Int) (a : Nat) (n : Int) (v : Int × Nat), Bytes l → a ≤ 9 → 0 ≤ n → n < 128 ^ a → numF l a n = .inl v → 0 ≤ v.1 ∧ v.1 < 9223372036854775808 ∧ a < v.2 ∧ v.2 ≤ a + l.length ∧ v.2 ≤ 9
  | [], a, n, v, _, _, _, _, h => by cases h
  | d :: l, a, n, v, hb, ha, h0, h1, h => by
    have hx := hb d List.mem_cons_self
    obtain ⟨x1, x2⟩ := hx
    rw [numF] at h
    split at h
    · cases h
    · rename_i hc
      have ha8 : a ≤ 8 := by omega
      rw [pow128] at h1 h
      obtain ⟨nn, rfl⟩ : ∃ m : Nat, n = m := ⟨n.toNat, by omega⟩
      obtain ⟨dn, hdn⟩ : ∃ m : Nat, d % 128 = m := ⟨(d % 128).toNat, by omega⟩
      have g := (digit_or (n := nn) (d := dn) ha8 (by omega) (by omega)).2
      rw [hdn] at h
      have ec : ((nn : Int) + (dn : Int) * ((128 ^ a : Nat) : Int)) = ((nn + dn * 128 ^ a : Nat) : Int) := by rw [Int.natCast_add, Int.natCast_mul]
      rw [ec] at h
      split at h
      · cases h
        simp only [List.length_cons]
        exact ⟨by omega, by omega, by omega, by omega, by omega⟩
      · have := numF_ok l (a + 1) _ v (fun x hx => hb x (List.mem_cons_of_mem _ hx)) (by omega) (by omega) (by rw [pow128]; omega) h
        simp only [List.length_cons]
        exact ⟨this.1, this.2.1, by omega, by omega, this.2.2.2.2⟩
theorem numR_ok {r : Rdr} (h : RdrB r) : 0 ≤ (numR r).1 ∧ (numR r).1 ≤ 9223372036854775807 ∧ RdrB (numR r).2 := by
  unfold numR
  cases hf : numF r.1 0 0 with
  | inl v =>
    have := numF_ok r.1 0 0 v h.2 (by decide) (by decide) (by decide) hf
    refine ⟨this.1, by have := this.2.1; show v.1 ≤ _; omega, ?_, fun x hx => h.2 x (List.mem_of_mem_drop hx)⟩
    show (r.1.drop v.2).length ≤ _
    rw [List.length_drop]
    have := h.1
    omega
  | inr _ => exact ⟨Int.le_refl 0, (show (0 : Int) ≤ 9223372036854775807 by decide), failR_b⟩
/-- What was laid is read. -/
theorem numF_row : ∀ (f : Nat) (n : Int) (a : Nat) (m : Int) (rest : List Int), 0 ≤ n → n < 128 ^ (f + 1) → a + f ≤ 8 → (a = 0 ∨ 0 < n) →
    numF ((rowI f n).1 ++ (rowI f n).2 :: rest) a m = .inl (m + n * 128 ^ a, a + (rowI f n).1.length + 1)
  | 0, n, a, m, rest, h0, h1, ha, hp => by
    have h1 : n < 128 := h1
    show numF (n :: rest) a m = _
    rw [numF, if_neg (by omega), if_pos h1, Int.emod_eq_of_lt h0 h1]
    rfl
  | f + 1, n, a, m, rest, h0, h1, ha, hp => by
    rw [rowI]
    have e : (128 : Int) ^ (f + 1 + 1) = 128 ^ (f + 1) * 128 := Int.pow_succ 128 (f + 1)
    split
    · rename_i h
      show numF ((n % 128 + 128) :: ((rowI f (n / 128)).1 ++ (rowI f (n / 128)).2 :: rest)) a m = _
      rw [numF, if_neg (by omega), if_neg (by omega), numF_row f (n / 128) (a + 1) _ rest (by omega) (by omega) (by omega) (Or.inr (by omega))]
      have e2 : (128 : Int) ^ (a + 1) = 128 ^ a * 128 := Int.pow_succ 128 a
      have e3 : (n % 128 + 128) % 128 = n % 128 := by omega
      have e4 : m + n % 128 * 128 ^ a + n / 128 * (128 ^ a * 128) = m + n * 128 ^ a := by
        have : n * 128 ^ a = (n % 128 + n / 128 * 128) * 128 ^ a := by rw [show n % 128 + n / 128 * 128 = n by omega]
        rw [this, Int.add_mul, Int.mul_assoc (n / 128), Int.mul_comm 128 (128 ^ a), Int.add_assoc]
      rw [e3, e2, e4]
      simp only [List.length_cons]
      rw [show a + 1 + (rowI f (n / 128)).1.length + 1 = a + ((rowI f (n / 128)).1.length + 1) + 1 by omega]
    · rename_i h
      show numF (n :: rest) a m = _
      rw [numF, if_neg (by omega), if_pos (by omega), Int.emod_eq_of_lt h0 (by omega)]
      rfl
theorem numR_row (n : Int) (h : NatI n) (rest : List Int) (u : Bool × Unit) : numR (rowN n ++ rest, u) = (n, (rest, u)) := by
  have h0 := h.1
  have h1 := h.2
  have e8 : (128 : Int) ^ (8 + 1) = 9223372036854775808 := rfl
  have e10 : (128 : Int) ^ (10 + 1) = 151115727451828646838272 := rfl
  have er : rowI 10 n = rowI 8 n := rowI_more 10 8 n (by rw [e10]; omega) (by rw [e8]; omega)
  have el : rowN n ++ rest = (rowI 8 n).1 ++ (rowI 8 n).2 :: rest := by unfold rowN; rw [er, List.append_assoc]; rfl
  have e := numF_row 8 n 0 0 rest h0 (by rw [e8]; omega) (by decide) (Or.inl rfl)
  unfold numR
  show (match numF (rowN n ++ rest) 0 0 with | .inl v => (v.1, ((rowN n ++ rest).drop v.2, u)) | .inr _ => (0, failR)) = _
  rw [el, e]
  show (0 + n * 128 ^ 0, (((rowI 8 n).1 ++ (rowI 8 n).2 :: rest).drop (0 + (rowI 8 n).1.length + 1), u)) = _
  rw [Int.pow_zero, Int.mul_one, Int.zero_add, Nat.zero_add, List.append_cons, List.drop_left' (by rw [List.length_append]; rfl)]
theorem num8_be8 (n : Int) (h : U64 n) : num8 (be8 n) = n := by
  obtain ⟨h0, h1⟩ := h
  unfold num8 be8
  simp only [List.foldl_cons, List.foldl_nil]
  omega
theorem u64R_be8 (n : Int) (h : U64 n) (rest : List Int) : u64R (be8 n ++ rest, false, ()) = (n, (rest, false, ())) := by
  unfold u64R takeR
  have l8 := be8_length n
  rw [if_neg (by
    intro x
    rcases x with x | x
    · have x : false = true := x
      cases x
    · have x : (be8 n ++ rest).length < 8 := x
      rw [List.length_append] at x
      omega)]
  show (num8 ((be8 n ++ rest).take 8), ((be8 n ++ rest).drop 8, false, ())) = _
  rw [List.take_left' l8, List.drop_left' l8, num8_be8 n h]

/-! ### (*corsned/code.Reader).Num -/
abbrev rnum.L0.D := Int × ((List Int) × (Bool × Unit)) × Int
def rnum.L0.st : rnum.L0.D → AS := fun (n, o0_2, n4) => ⟨([.ptr (.old 0) 0 [] 0, .ptr (.new 1 0) 0 [] 0, .undef, .d (.int .i64) n, .ptr (.new 4 0) 0 [] 0, .fn 46 (.cons (.ptr (.new 4 0) 0 [] 0) (.cons (.ptr (.new 1 0) 0 [] 0) (.nil)))] ++ undN 35 []), [.obj 0 false (.d (.pair (.slice (.int .u8)) (.pair .bool .unit)) o0_2)], ([[], [.obj 0 false (.ptr (.old 0) 0 [] 0)], [], [], [.obj 0 false (.d (.int .i64) n4)]] ++ nilN 36 [])⟩
abbrev rnum.L0.Y0 := ((List Int) × (Bool × Unit))  -- o0
abbrev rnum.L0.X0 := ((List Int) × (Bool × Unit))
def rnum.L0.ex0 : rnum.L0.X0 → Exit × AS := fun x => (.ret, ⟨([.ptr (.old 0) 0 [] 0, .undef, .d (.int .i64) (0 : Int)] ++ undN 38 []), [.obj 0 false (.d (.pair (.slice (.int .u8)) (.pair .bool .unit)) x)], (List.replicate 41 [])⟩)
abbrev rnum.L0.Y1 := Int × ((List Int) × (Bool × Unit)) × Int  -- n, o0, n4
abbrev rnum.L0.X1 := Int × ((List Int) × (Bool × Unit)) × Int
def rnum.L0.ex1 : rnum.L0.X1 → Exit × AS := fun x => (.exit 0, ⟨([.ptr (.old 0) 0 [] 0, .ptr (.new 1 0) 0 [] 0, .undef, .d (.int .i64) x.1, .ptr (.new 4 0) 0 [] 0] ++ undN 36 []), [.obj 0 false (.d (.pair (.slice (.int .u8)) (.pair .bool .unit)) x.2.1)], ([[], [.obj 0 false (.ptr (.old 0) 0 [] 0)], [], [], [.obj 0 false (.d (.int .i64) x.2.2)]] ++ nilN 36 [])⟩)
abbrev rnum.L0.X := (rnum.L0.X0) ⊕ (rnum.L0.X1)
abbrev rnum.L0.Y := (rnum.L0.Y0) ⊕ (rnum.L0.Y1)
def rnum.L0.out : rnum.L0.X → Out (Exit × AS) := fun x => .br x.isLeft (.get x.getLeft? fun a => .ok (rnum.L0.ex0 a)) (.get x.getRight? fun b => .ok (rnum.L0.ex1 b))
def rnum.L0.add : rnum.L0.D → rnum.L0.Y → rnum.L0.X := fun (n, o0_2, n4) y => match y with | .inl y => .inl y | .inr z => .inr (z)
abbrev rnum.D := ((List Int) × (Bool × Unit))
def rnum.st : rnum.D → List AVal × List Ent := fun o0 => ([.ptr (.old 0) 0 [] 0], [.obj 0 false (.d (.pair (.slice (.int .u8)) (.pair .bool .unit)) o0)])
abbrev rnum.Y := Int × ((List Int) × (Bool × Unit))
abbrev rnum.X := Int × ((List Int) × (Bool × Unit))
def rnum.out : rnum.X → GRes := fun x => ⟨.d (.int .i64) x.1, [.obj 0 false (.d (.pair (.slice (.int .u8)) (.pair .bool .unit)) x.2)], []⟩
def rnum.add : rnum.D → rnum.Y → rnum.X := fun o0 y => y


def rnum.L0.Pre : rnum.L0.D → Prop := fun (n, o, i) => RdrB o ∧ ∃ (k m : Nat), k ≤ 9 ∧ i = k ∧ n = m ∧ m < 128 ^ k
def rnum.L0.F : rnum.L0.D → rnum.L0.Y := fun (n, o, i) => match numF (o.1.drop i.toNat) i.toNat n with | .inl v => .inr (v.1, o, (v.2 : Int)) | .inr _ => .inl failR
def rnum.Pre : rnum.D → Prop := fun o => RdrB o
def rnum.F : rnum.D → rnum.Y := fun o => numR o

noncomputable def rnum.G : Gam := gcons 46 anyArgs rwrong.E (gcons 47 anyArgs rfail.E (gnil))
noncomputable def rnum.L0.E : LEntry := LEntry.of rnum.L0.st rnum.L0.Pre (fun d => rnum.L0.add d (rnum.L0.F d)) rnum.L0.out
noncomputable def rnum.L0.call : rnum.L0.D → Option rnum.L0.X := fun d => rnum.L0.E.run (rnum.L0.st d)
noncomputable def rnum.an : Ann := {
  objs := [1],
  loops := fun r => bif Nat.beq r 3 then { keep := [0, 1, 3, 4, 5], sites := [1, 4], frz := [], data := [], owns := [] } else { keep := [], sites := [], frz := [], data := [], owns := [] },
  outs := fun r b => bif Nat.beq r 3 then (bif b then { keep := [0, 2], sites := [], frz := [], data := [], owns := [] } else { keep := [0, 1, 3, 4], sites := [1, 4], frz := [], data := [], owns := [] }) else { keep := [], sites := [], frz := [], data := [], owns := [] },
  sums := fun r => bif Nat.beq r 3 then some rnum.L0.E else none,
  owns := [],
  trim := [],
  res := [],
  dats := [⟨0, [.arr], (.pair (.slice (.int .u8)) (.pair .bool .unit))⟩] }
theorem rnum.L0.inj : ∀ d d', rnum.L0.st d = rnum.L0.st d' → d = d' := fun (n, o0_2, n4) (n', o0_2', n4') hEq => by
  have e0 : n = n' := d_inj (t := (.int .i64)) (congrArg (fun s : AS => (s.slot 3)) hEq)
  have e1 : o0_2 = o0_2' := d_inj (t := (.pair (.slice (.int .u8)) (.pair .bool .unit))) (congrArg (fun s : AS => (entC (s.ent (.old 0)))) hEq)
  have e2 : n4 = n4' := d_inj (t := (.int .i64)) (congrArg (fun s : AS => (entC (s.ent (.new 4 0)))) hEq)
  rw [e0, e1, e2]
theorem rnum.L0.run {d : rnum.L0.D} (h : rnum.L0.Pre d) : rnum.L0.call d = some (rnum.L0.add d (rnum.L0.F d)) := LEntry.of_run rnum.L0.inj h
theorem rnum.L0.byRounds (μ : rnum.L0.D → Nat) (h : ∀ d, rnum.L0.Pre d → (∃ d', rnum.L0.Pre d' ∧ μ d' < μ d ∧ rnum.L0.add d' (rnum.L0.F d') = rnum.L0.add d (rnum.L0.F d) ∧ ∀ {R : Type} (kn : AS → Option R) (kx : Exit → AS → Option R), lround Try.prog rnum.G rnum.an 0 Try.f23 0 (rnum.L0.st d) kn kx = kn (rnum.L0.st d')) ∨ (∃ r, (rnum.L0.out (rnum.L0.add d (rnum.L0.F d))).eval = some r ∧ ∀ {R : Type} (kn : AS → Option R) (kx : Exit → AS → Option R), lround Try.prog rnum.G rnum.an 0 Try.f23 0 (rnum.L0.st d) kn kx = kx r.1 r.2)) : ∀ d, rnum.L0.Pre d → ∃ n, lrun Try.prog rnum.G rnum.an 0 Try.f23 0 n (rnum.L0.st d) (fun e s => some (e, s)) = (rnum.L0.out (rnum.L0.add d (rnum.L0.F d))).eval := lrun_of (F := fun d => rnum.L0.add d (rnum.L0.F d)) (out := rnum.L0.out) μ h
theorem rnum.L0.step {R : Type} (n : Int) (o0_2 : ((List Int) × (Bool × Unit))) (n4 : Int) (kn : AS → Option R) (kx : Exit → AS → Option R) : lround Try.prog rnum.G rnum.an 0 Try.f23 0 (rnum.L0.st (n, o0_2, n4)) kn kx =
  obind (rwrong.call (n4, o0_2)) fun x1 =>
  sel (x1.2) (
   obind (rfail.call x1.1.2) fun x2 =>
   kx (rnum.L0.ex0 x2).1 (rnum.L0.ex0 x2).2) (
   sel (inb x1.1.1 (((List.length x1.1.2.1) : Nat) : Int)) (
   sel (nonneg (imul .i64 (7 : Int) x1.1.1)) (
   sel ((ilt (nth (.int .u8) x1.1.2.1 (Int.toNat x1.1.1)) (128 : Int))) (
    kx (rnum.L0.ex1 ((bitop .or .i64 n (ishl .i64 (icv .i64 (irem (nth (.int .u8) x1.1.2.1 (Int.toNat x1.1.1)) (128 : Int))) (imul .i64 (7 : Int) x1.1.1))), x1.1.2, (iadd .i64 x1.1.1 (1 : Int)))).1 (rnum.L0.ex1 ((bitop .or .i64 n (ishl .i64 (icv .i64 (irem (nth (.int .u8) x1.1.2.1 (Int.toNat x1.1.1)) (128 : Int))) (imul .i64 (7 : Int) x1.1.1))), x1.1.2, (iadd .i64 x1.1.1 (1 : Int)))).2) (
    kn (rnum.L0.st ((bitop .or .i64 n (ishl .i64 (icv .i64 (irem (nth (.int .u8) x1.1.2.1 (Int.toNat x1.1.1)) (128 : Int))) (imul .i64 (7 : Int) x1.1.1))), x1.1.2, (iadd .i64 x1.1.1 (1 : Int)))))) none) none) := by kernel_rfl
theorem rnum.eq {R : Type} (o0 : ((List Int) × (Bool × Unit))) (k : GRes → Option R) : arun Try.prog rnum.G rnum.an 0 Try.f23 (rnum.st o0).1 (rnum.st o0).2 k =
  obind (rnum.L0.call ((0 : Int), o0, (0 : Int))) fun x3 =>
  sel (x3.isLeft) (
   obind (x3.getLeft?) fun a4 =>
   k (rnum.out ((0 : Int), a4))) (
   obind (x3.getRight?) fun b5 =>
   sel (inc b5.2.2 (((List.length b5.2.1.1) : Nat) : Int)) (
   k (rnum.out (b5.1, ((cut b5.2.1.1 (Int.toNat b5.2.2) ((List.length b5.2.1.1) - (Int.toNat b5.2.2))), b5.2.1.2)))) none) := by kernel_rfl


theorem rnum.L0.ok : ∀ d, rnum.L0.Pre d → ∃ n, lrun Try.prog rnum.G rnum.an 0 Try.f23 0 n (rnum.L0.st d) (fun e s => some (e, s)) = (rnum.L0.out (rnum.L0.add d (rnum.L0.F d))).eval := by
  refine rnum.L0.byRounds (fun (n, o, i) => 9 - i.toNat) ?_
  rintro ⟨n, o, i⟩ ⟨hr, k, m, hk, rfl, rfl, hm⟩
  have hk : k ≤ 9 := hk
  have hr : RdrB o := hr
  by_cases hw : o.1.length ≤ k ∨ 8 < k ∨ (0 < k ∧ nth (.int .u8) o.1 k = 0)
  · right
    have hf : numF (o.1.drop k) k (m : Int) = .inr () := by
      by_cases h : k < o.1.length
      · have n1 : nth (.int .u8) o.1 k = o.1[k] := nth_lt (t := .int .u8) h
        rw [List.drop_eq_getElem_cons h, numF, if_pos (by rw [n1] at hw; rcases hw with x | x | x; exact absurd x (by omega); exact Or.inl x; exact Or.inr x)]
      · rw [List.drop_of_length_le (by omega)]; rfl
    refine ⟨rnum.L0.ex0 failR, ?_, fun kn kx => ?_⟩
    · simp only [rnum.L0.add, rnum.L0.F, Int.toNat_natCast, hf]
      rfl
    · rw [rnum.L0.step, rwrong.run (d := ((k : Int), o)) (Int.natCast_nonneg k)]
      simp only [obind_some, rwrong.add, rwrong.F, Int.toNat_natCast]
      rw [dec_true hw, sel_true, rfail.run (d := o) trivial]
      rfl
  · have h : k < o.1.length := by omega
    have hx := hr.2 _ (List.getElem_mem h)
    obtain ⟨x1, x2⟩ := hx
    have n1 : nth (.int .u8) o.1 k = o.1[k] := nth_lt (t := .int .u8) h
    have hc : ¬ (8 < k ∨ (0 < k ∧ o.1[k] = 0)) := fun x => hw (x.elim (fun y => .inr (.inl y)) fun y => .inr (.inr ⟨y.1, n1.trans y.2⟩))
    obtain ⟨dn, hdn⟩ : ∃ d : Nat, o.1[k] = d := ⟨o.1[k].toNat, by omega⟩
    have g := digit_or (n := m) (d := dn % 128) (k := k) (by omega) hm (by omega)
    have step : ∀ {R : Type} (kn : AS → Option R) (kx : Exit → AS → Option R), lround Try.prog rnum.G rnum.an 0 Try.f23 0 (rnum.L0.st ((m : Int), o, (k : Int))) kn kx = sel (ilt o.1[k] 128) (kx (rnum.L0.ex1 (((m + dn % 128 * 128 ^ k : Nat) : Int), o, ((k + 1 : Nat) : Int))).1 (rnum.L0.ex1 (((m + dn % 128 * 128 ^ k : Nat) : Int), o, ((k + 1 : Nat) : Int))).2) (kn (rnum.L0.st (((m + dn % 128 * 128 ^ k : Nat) : Int), o, ((k + 1 : Nat) : Int)))) := by
      intro R kn kx
      rw [rnum.L0.step, rwrong.run (d := ((k : Int), o)) (Int.natCast_nonneg k)]
      simp only [obind_some, rwrong.add, rwrong.F, Int.toNat_natCast]
      rw [dec_false hw, sel_false, inb_true (by omega) (by omega), n1, hdn, N.mLN (by omega), nonneg_true (by omega), N.rNL, N.cN (by omega), g.1, N.aNL (by omega)]
      rfl
    have ef : numF (o.1.drop k) k (m : Int) = if o.1[k] < 128 then .inl (((m + dn % 128 * 128 ^ k : Nat) : Int), k + 1) else numF (o.1.drop (k + 1)) (k + 1) ((m + dn % 128 * 128 ^ k : Nat) : Int) := by
      have ec : (m : Int) + o.1[k] % 128 * 128 ^ k = ((m + dn % 128 * 128 ^ k : Nat) : Int) := by rw [hdn, pow128, Int.natCast_add, Int.natCast_mul]; rfl
      rw [List.drop_eq_getElem_cons h, numF, if_neg hc, ec]
    by_cases hl : o.1[k] < 128
    · right
      refine ⟨rnum.L0.ex1 (((m + dn % 128 * 128 ^ k : Nat) : Int), o, ((k + 1 : Nat) : Int)), ?_, fun kn kx => ?_⟩
      · simp only [rnum.L0.add, rnum.L0.F, Int.toNat_natCast, ef, if_pos hl]
        rfl
      · rw [step, ilt_true hl, sel_true]
    · left
      refine ⟨(((m + dn % 128 * 128 ^ k : Nat) : Int), o, ((k + 1 : Nat) : Int)), ⟨hr, k + 1, _, by omega, rfl, rfl, g.2.1⟩, by simp only [Int.toNat_natCast]; omega, ?_, fun kn kx => ?_⟩
      · simp only [rnum.L0.add, rnum.L0.F, Int.toNat_natCast, ef, if_neg hl]
      · rw [step, ilt_false hl, sel_false]
theorem rnum.ok : ∀ d, rnum.Pre d → arun Try.prog rnum.G rnum.an 0 Try.f23 (rnum.st d).1 (rnum.st d).2 some = some (rnum.out (rnum.add d (rnum.F d))) := by
  intro o h
  have h : RdrB o := h
  rw [rnum.eq, rnum.L0.run (d := (0, o, 0)) ⟨h, 0, 0, by decide, rfl, rfl, by decide⟩]
  simp only [obind_some, rnum.L0.add, rnum.L0.F, Int.toNat_zero, List.drop_zero, rnum.add, rnum.F, numR]
  cases hf : numF o.1 0 0 with
  | inl v =>
    have g := numF_ok o.1 0 0 v h.2 (by decide) (by decide) (by decide) hf
    have e2 : cut o.1 v.2 (o.1.length - v.2) = o.1.drop v.2 := by unfold cut; rw [List.take_of_length_le]; rw [List.length_drop]; omega
    simp only [Sum.isLeft_inr, Sum.getRight?_inr, sel_false, obind_some, Int.toNat_natCast]
    rw [inc_true (by omega) (by omega), sel_true, e2]
  | inr _ => rfl

theorem rnum.inj : ∀ d d', rnum.st d = rnum.st d' → d = d' := fun o0 o0' hEq => by
  have e0 : o0 = o0' := d_inj (t := (.pair (.slice (.int .u8)) (.pair .bool .unit))) (congrArg (fun s : List AVal × List Ent => (entD (s.2.getD 0 .dead))) hEq)
  rw [e0]
noncomputable def rnum.E : Entry := Entry.of [none] rnum.st rnum.Pre (fun d => rnum.add d (rnum.F d)) rnum.out
noncomputable def rnum.call : rnum.D → Option rnum.X := fun d => rnum.E.run (rnum.st d).1 (rnum.st d).2
theorem rnum.run {d : rnum.D} (h : rnum.Pre d) : rnum.call d = some (rnum.add d (rnum.F d)) := Entry.of_run rnum.inj h
theorem rnum.does : Does Try.prog 23 rnum.E := Does.of (by kernel_rfl) (show Sound _ rnum.G from Sound.cons rwrong.does (Sound.cons rfail.does (Sound.nil _))) (by kernel_rfl) (by kernel_rfl) (by kernel_rfl) (LOk.fn 1 (by kernel_rfl) (And.intro (LDo.of (by kernel_rfl) rnum.L0.ok) trivial)) rnum.ok

end Go.Ab
