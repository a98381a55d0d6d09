/-
  Made by a program of mine (wip/gen), and by hand.
-/
import Derived.Test.YtglpcfdjdabdnaaRp1
namespace Go.Ab
open Go.Proofs
set_option maxRecDepth 100000
set_option linter.unusedVariables false
set_option linter.unusedSimpArgs false

/-! ### corsned/corsnedref05.Right -/
abbrev r5right.D := Int
def r5right.st : r5right.D → List AVal × List Ent := fun a => ([.d (.int .u64) a], [])
abbrev r5right.Y := Bool
abbrev r5right.X := Bool
def r5right.out : r5right.X → GRes := fun x => ⟨.d .bool x, [], []⟩
def r5right.add : r5right.D → r5right.Y → r5right.X := fun a y => y


def r5right.Pre : r5right.D → Prop := fun _ => True
def r5right.F : r5right.D → r5right.Y := fun a => ilt a 2305843009213688669

noncomputable def r5right.G : Gam := gnil
noncomputable def r5right.an : Ann := {
  objs := [],
  loops := fun r => { keep := [], sites := [], frz := [], data := [], owns := [] },
  outs := fun r b => { keep := [], sites := [], frz := [], data := [], owns := [] },
  sums := fun r => none,
  owns := [],
  trim := [],
  res := [] }
theorem r5right.eq {R : Type} (a : Int) (k : GRes → Option R) : arun Try.prog r5right.G r5right.an 0 Try.f79 (r5right.st a).1 (r5right.st a).2 k =
  k (r5right.out (ilt a (2305843009213688669 : Int))) := by kernel_rfl


theorem r5right.ok : ∀ d, r5right.Pre d → arun Try.prog r5right.G r5right.an 0 Try.f79 (r5right.st d).1 (r5right.st d).2 some = some (r5right.out (r5right.add d (r5right.F d))) := by
  intro a _
  rw [r5right.eq]
  rfl

theorem r5right.inj : ∀ d d', r5right.st d = r5right.st d' → d = d' := fun a a' hEq => by
  have e0 : a = a' := d_inj (t := (.int .u64)) (congrArg (fun s : List AVal × List Ent => (s.1.getD 0 .undef)) hEq)
  rw [e0]
noncomputable def r5right.E : Entry := Entry.of [some (.int .u64)] r5right.st r5right.Pre (fun d => r5right.add d (r5right.F d)) r5right.out
noncomputable def r5right.call : r5right.D → Option r5right.X := fun d => r5right.E.run (r5right.st d).1 (r5right.st d).2
theorem r5right.run {d : r5right.D} (h : r5right.Pre d) : r5right.call d = some (r5right.add d (r5right.F d)) := Entry.of_run r5right.inj h
theorem r5right.does : Does Try.prog 79 r5right.E := Does.of (by kernel_rfl) (show Sound _ r5right.G from Sound.nil _) (by kernel_rfl) (by kernel_rfl) (by kernel_rfl) (LOk.fn 0 (by kernel_rfl) trivial) r5right.ok

/-! ### corsned/corsnedref05.From -/
abbrev r5from.L0.D := (List Int) × Int × Int
def r5from.L0.st : r5from.L0.D → AS := fun (h_2, n, i) => ⟨([.undef, .rptr (.arr 32 (.int .u8)) h_2, .undef, .d (.int .u64) n, .d (.int .i64) i] ++ undN 25 []), [], (List.replicate 30 [])⟩
abbrev r5from.L0.Y0 := Int  -- n
abbrev r5from.L0.X0 := Int
def r5from.L0.ex0 : r5from.L0.X0 → Exit × AS := fun x => (.exit 0, ⟨([.undef, .undef, .undef, .d (.int .u64) x] ++ undN 26 []), [], (List.replicate 30 [])⟩)
abbrev r5from.L0.X := r5from.L0.X0
abbrev r5from.L0.Y := r5from.L0.Y0
def r5from.L0.out : r5from.L0.X → Out (Exit × AS) := fun x => .ok (r5from.L0.ex0 x)
def r5from.L0.add : r5from.L0.D → r5from.L0.Y → r5from.L0.X := fun (h_2, n, i) y => y
abbrev r5from.D := (List Int)
def r5from.st : r5from.D → List AVal × List Ent := fun h => ([.d (.arr 32 (.int .u8)) h], [])
abbrev r5from.Y := Int
abbrev r5from.X := Int
def r5from.out : r5from.X → GRes := fun x => ⟨.d (.int .u64) x, [], []⟩
def r5from.add : r5from.D → r5from.Y → r5from.X := fun h y => y


def r5from.L0.Pre : r5from.L0.D → Prop := fun (h, n, i) => From.b n ∧ h.length = 32 ∧ Bytes h ∧ ∃ k : Nat, k ≤ 32 ∧ i = k
def r5from.L0.F : r5from.L0.D → r5from.L0.Y := fun (h, n, i) => (h.drop i.toNat).foldl (fun n b => (n * 256 + b) % 2305843009213688668) n
def r5from.Pre : r5from.D → Prop := fun h => h.length = 32 ∧ Bytes h
def r5from.F : r5from.D → r5from.Y := fun h => fromQ h

noncomputable def r5from.G : Gam := gnil
noncomputable def r5from.L0.E : LEntry := LEntry.of r5from.L0.st r5from.L0.Pre (fun d => r5from.L0.add d (r5from.L0.F d)) r5from.L0.out
noncomputable def r5from.L0.call : r5from.L0.D → Option r5from.L0.X := fun d => r5from.L0.E.run (r5from.L0.st d)
noncomputable def r5from.an : Ann := {
  objs := [],
  loops := fun r => bif Nat.beq r 3 then { keep := [1, 3, 4], sites := [], frz := [], data := [], owns := [] } else bif Nat.beq r 6 then { keep := [1, 3, 4, 5], sites := [], frz := [], data := [], owns := [] } else { keep := [], sites := [], frz := [], data := [], owns := [] },
  outs := fun r b => bif Nat.beq r 3 then (bif b then { keep := [2], sites := [], frz := [], data := [], owns := [] } else { keep := [3], sites := [], frz := [], data := [], owns := [] }) else bif Nat.beq r 6 then (bif b then { keep := [2], sites := [], frz := [], data := [], owns := [] } else { keep := [1, 3, 4], sites := [], frz := [], data := [], owns := [] }) else { keep := [], sites := [], frz := [], data := [], owns := [] },
  sums := fun r => bif Nat.beq r 3 then some r5from.L0.E else none,
  owns := [],
  trim := [],
  res := [] }
theorem r5from.L0.inj : ∀ d d', r5from.L0.st d = r5from.L0.st d' → d = d' := fun (h_2, n, i) (h_2', n', i') hEq => by
  have e0 : h_2 = h_2' := rptr_inj (t := (.arr 32 (.int .u8))) (congrArg (fun s : AS => (s.slot 1)) hEq)
  have e1 : n = n' := d_inj (t := (.int .u64)) (congrArg (fun s : AS => (s.slot 3)) hEq)
  have e2 : i = i' := d_inj (t := (.int .i64)) (congrArg (fun s : AS => (s.slot 4)) hEq)
  rw [e0, e1, e2]
theorem r5from.L0.run {d : r5from.L0.D} (h : r5from.L0.Pre d) : r5from.L0.call d = some (r5from.L0.add d (r5from.L0.F d)) := LEntry.of_run r5from.L0.inj h
theorem r5from.L0.byRounds (μ : r5from.L0.D → Nat) (h : ∀ d, r5from.L0.Pre d → (∃ d', r5from.L0.Pre d' ∧ μ d' < μ d ∧ r5from.L0.add d' (r5from.L0.F d') = r5from.L0.add d (r5from.L0.F d) ∧ ∀ {R : Type} (kn : AS → Option R) (kx : Exit → AS → Option R), lround Try.prog r5from.G r5from.an 12 Try.f90 0 (r5from.L0.st d) kn kx = kn (r5from.L0.st d')) ∨ (∀ {R : Type} (kn : AS → Option R) (kx : Exit → AS → Option R), lround Try.prog r5from.G r5from.an 12 Try.f90 0 (r5from.L0.st d) kn kx = kx (r5from.L0.ex0 (r5from.L0.add d (r5from.L0.F d))).1 (r5from.L0.ex0 (r5from.L0.add d (r5from.L0.F d))).2)) : ∀ d, r5from.L0.Pre d → ∃ n, lrun Try.prog r5from.G r5from.an 12 Try.f90 0 n (r5from.L0.st d) (fun e s => some (e, s)) = (r5from.L0.out (r5from.L0.add d (r5from.L0.F d))).eval := lrun_one (F := fun d => r5from.L0.add d (r5from.L0.F d)) μ h
theorem r5from.L0.step {R : Type} (h_2 : (List Int)) (n : Int) (i : Int) (kn : AS → Option R) (kx : Exit → AS → Option R) : lround Try.prog r5from.G r5from.an 12 Try.f90 0 (r5from.L0.st (h_2, n, i)) kn kx =
  sel ((ilt i (32 : Int))) (
   sel (inb i (32 : Int)) (
   sel (inb i (32 : Int)) (
   sel (inb i (32 : Int)) (
   sel (inb i (32 : Int)) (
   sel (inb i (32 : Int)) (
   sel (inb i (32 : Int)) (
   sel (inb i (32 : Int)) (
   sel (inb i (32 : Int)) (
   kn (r5from.L0.st (h_2, (irem (iadd .u64 (imul .u64 (2 : Int) (irem (iadd .u64 (imul .u64 (2 : Int) (irem (iadd .u64 (imul .u64 (2 : Int) (irem (iadd .u64 (imul .u64 (2 : Int) (irem (iadd .u64 (imul .u64 (2 : Int) (irem (iadd .u64 (imul .u64 (2 : Int) (irem (iadd .u64 (imul .u64 (2 : Int) (irem (iadd .u64 (imul .u64 (2 : Int) n) (bitop .and .u64 (ishr .u64 (icv .u64 (nth (.int .u8) h_2 (Int.toNat i))) (7 : Int)) (1 : Int))) (2305843009213688668 : Int))) (bitop .and .u64 (ishr .u64 (icv .u64 (nth (.int .u8) h_2 (Int.toNat i))) (6 : Int)) (1 : Int))) (2305843009213688668 : Int))) (bitop .and .u64 (ishr .u64 (icv .u64 (nth (.int .u8) h_2 (Int.toNat i))) (5 : Int)) (1 : Int))) (2305843009213688668 : Int))) (bitop .and .u64 (ishr .u64 (icv .u64 (nth (.int .u8) h_2 (Int.toNat i))) (4 : Int)) (1 : Int))) (2305843009213688668 : Int))) (bitop .and .u64 (ishr .u64 (icv .u64 (nth (.int .u8) h_2 (Int.toNat i))) (3 : Int)) (1 : Int))) (2305843009213688668 : Int))) (bitop .and .u64 (ishr .u64 (icv .u64 (nth (.int .u8) h_2 (Int.toNat i))) (2 : Int)) (1 : Int))) (2305843009213688668 : Int))) (bitop .and .u64 (ishr .u64 (icv .u64 (nth (.int .u8) h_2 (Int.toNat i))) (1 : Int)) (1 : Int))) (2305843009213688668 : Int))) (bitop .and .u64 (ishr .u64 (icv .u64 (nth (.int .u8) h_2 (Int.toNat i))) (0 : Int)) (1 : Int))) (2305843009213688668 : Int)), (iadd .i64 i (1 : Int))))) none) none) none) none) none) none) none) none) (
   kx (r5from.L0.ex0 n).1 (r5from.L0.ex0 n).2) := by kernel_rfl
theorem r5from.eq {R : Type} (h : (List Int)) (k : GRes → Option R) : arun Try.prog r5from.G r5from.an 12 Try.f90 (r5from.st h).1 (r5from.st h).2 k =
  obind (r5from.L0.call (h, (0 : Int), (0 : Int))) fun x1 =>
  k (r5from.out (iadd .u64 x1 (1 : Int))) := by kernel_rfl


theorem bit_at {c : Int} (hc : Byte c) (k : Nat) (hk : k ≤ 7) : bitop .and .u64 (ishr .u64 (icv .u64 c) (k : Int)) 1 = c / 2 ^ k % 2 := by
  obtain ⟨h1, h2⟩ := hc
  have e : icv .u64 c = c := by rw [icv_um]; omega
  have p : (0 : Int) < 2 ^ k := Int.pow_pos (by omega)
  have q0 : 0 ≤ c / 2 ^ k := Int.ediv_nonneg h1 (by omega)
  have q1 : c / 2 ^ k ≤ c := Int.ediv_le_self _ h1
  rw [e, shr_u64 k (by rfl) (by omega), and1 q0 (by omega)]
theorem bits_fin : ∀ c : Fin 256, (c.val : Int) / 2 ^ 7 % 2 * 128 + (c.val : Int) / 2 ^ 6 % 2 * 64 + (c.val : Int) / 2 ^ 5 % 2 * 32 + (c.val : Int) / 2 ^ 4 % 2 * 16 + (c.val : Int) / 2 ^ 3 % 2 * 8 + (c.val : Int) / 2 ^ 2 % 2 * 4 + (c.val : Int) / 2 ^ 1 % 2 * 2 + (c.val : Int) / 2 ^ 0 % 2 = (c.val : Int) := by decide +kernel
theorem bits_sum {c : Int} (hc : Byte c) : c / 2 ^ 7 % 2 * 128 + c / 2 ^ 6 % 2 * 64 + c / 2 ^ 5 % 2 * 32 + c / 2 ^ 4 % 2 * 16 + c / 2 ^ 3 % 2 * 8 + c / 2 ^ 2 % 2 * 4 + c / 2 ^ 1 % 2 * 2 + c / 2 ^ 0 % 2 = c := by
  obtain ⟨n, rfl⟩ : ∃ n : Nat, c = n := ⟨c.toNat, by have := hc.1; omega⟩
  exact bits_fin ⟨n, by have := hc.2; omega⟩
theorem byte_bits {c : Int} (hc : Byte c) : ∃ d7 d6 d5 d4 d3 d2 d1 d0 : Int, (0 ≤ d7 ∧ d7 < 2) ∧ (0 ≤ d6 ∧ d6 < 2) ∧ (0 ≤ d5 ∧ d5 < 2) ∧ (0 ≤ d4 ∧ d4 < 2) ∧ (0 ≤ d3 ∧ d3 < 2) ∧ (0 ≤ d2 ∧ d2 < 2) ∧ (0 ≤ d1 ∧ d1 < 2) ∧ (0 ≤ d0 ∧ d0 < 2) ∧ bitop .and .u64 (ishr .u64 (icv .u64 c) 7) 1 = d7 ∧ bitop .and .u64 (ishr .u64 (icv .u64 c) 6) 1 = d6 ∧ bitop .and .u64 (ishr .u64 (icv .u64 c) 5) 1 = d5 ∧ bitop .and .u64 (ishr .u64 (icv .u64 c) 4) 1 = d4 ∧ bitop .and .u64 (ishr .u64 (icv .u64 c) 3) 1 = d3 ∧ bitop .and .u64 (ishr .u64 (icv .u64 c) 2) 1 = d2 ∧ bitop .and .u64 (ishr .u64 (icv .u64 c) 1) 1 = d1 ∧ bitop .and .u64 (ishr .u64 (icv .u64 c) 0) 1 = d0 ∧ d7 * 128 + d6 * 64 + d5 * 32 + d4 * 16 + d3 * 8 + d2 * 4 + d1 * 2 + d0 = c := by
  have z : ∀ x : Int, 0 ≤ x % 2 ∧ x % 2 < 2 := fun x => by omega
  exact ⟨c / 2 ^ 7 % 2, c / 2 ^ 6 % 2, c / 2 ^ 5 % 2, c / 2 ^ 4 % 2, c / 2 ^ 3 % 2, c / 2 ^ 2 % 2, c / 2 ^ 1 % 2, c / 2 ^ 0 % 2, z _, z _, z _, z _, z _, z _, z _, z _, bit_at hc 7 (by omega), bit_at hc 6 (by omega), bit_at hc 5 (by omega), bit_at hc 4 (by omega), bit_at hc 3 (by omega), bit_at hc 2 (by omega), bit_at hc 1 (by omega), bit_at hc 0 (by omega), bits_sum hc⟩
theorem bit_in {n b : Int} (hn : From.b n) (hb : 0 ≤ b ∧ b < 2) : irem (iadd .u64 (imul .u64 2 n) b) 2305843009213688668 = (2 * n + b) % 2305843009213688668 ∧ From.b ((2 * n + b) % 2305843009213688668) := by
  obtain ⟨h1, h2⟩ := hn
  have e : iadd .u64 (imul .u64 2 n) b = 2 * n + b := by rw [imul_um, iadd_um]; omega
  rw [e, irem_nn (by omega)]
  exact ⟨rfl, by omega, by omega⟩
theorem eight_bits (n c d7 d6 d5 d4 d3 d2 d1 d0 : Int) (M : Int) (h : d7 * 128 + d6 * 64 + d5 * 32 + d4 * 16 + d3 * 8 + d2 * 4 + d1 * 2 + d0 = c) :
    (2 * ((2 * ((2 * ((2 * ((2 * ((2 * ((2 * ((2 * n + d7) % M) + d6) % M) + d5) % M) + d4) % M) + d3) % M) + d2) % M) + d1) % M) + d0) % M = (n * 256 + c) % M := by
  have l : ∀ x b : Int, (2 * (x % M) + b) % M = (2 * x + b) % M := fun x b => by
    rw [Int.add_emod, Int.mul_emod, Int.emod_emod_of_dvd _ (Int.dvd_refl M), ← Int.mul_emod, ← Int.add_emod]
  simp only [l]
  have e : 2 * (2 * (2 * (2 * (2 * (2 * (2 * (2 * n + d7) + d6) + d5) + d4) + d3) + d2) + d1) + d0 = n * 256 + c := by omega
  rw [e]
theorem r5from.L0.ok : ∀ d, r5from.L0.Pre d → ∃ n, lrun Try.prog r5from.G r5from.an 12 Try.f90 0 n (r5from.L0.st d) (fun e s => some (e, s)) = (r5from.L0.out (r5from.L0.add d (r5from.L0.F d))).eval := by
  refine r5from.L0.byRounds (fun (h, n, i) => 32 - i.toNat) ?_
  rintro ⟨h, n, i⟩ ⟨hn, hl, hb, k, hk, rfl⟩
  have hn : From.b n := hn
  have hl : h.length = 32 := hl
  have hb : Bytes h := hb
  by_cases hlt : k < 32
  · left
    have hx : Byte (h[k]'(by omega)) := hb _ (List.getElem_mem _)
    have n1 : nth (.int .u8) h k = h[k]'(by omega) := nth_lt (t := .int .u8) (by omega)
    refine ⟨(h, (n * 256 + h[k]'(by omega)) % 2305843009213688668, ((k + 1 : Nat) : Int)), ⟨⟨by omega, by omega⟩, hl, hb, k + 1, by omega, rfl⟩, by simp only [Int.toNat_natCast]; omega, ?_, fun kn kx => ?_⟩
    · simp only [r5from.L0.add, r5from.L0.F, Int.toNat_natCast]
      rw [List.drop_eq_getElem_cons (by omega : k < h.length)]
      rfl
    · rw [r5from.L0.step]
      generalize hc : h[k]'(by omega) = c at hx n1
      obtain ⟨d7, d6, d5, d4, d3, d2, d1, d0, z7, z6, z5, z4, z3, z2, z1, z0, b7, b6, b5, b4, b3, b2, b1, b0, hsum⟩ := byte_bits hx
      obtain ⟨f7, g7⟩ := bit_in hn z7
      obtain ⟨f6, g6⟩ := bit_in g7 z6
      obtain ⟨f5, g5⟩ := bit_in g6 z5
      obtain ⟨f4, g4⟩ := bit_in g5 z4
      obtain ⟨f3, g3⟩ := bit_in g4 z3
      obtain ⟨f2, g2⟩ := bit_in g3 z2
      obtain ⟨f1, g1⟩ := bit_in g2 z1
      obtain ⟨f0, g0⟩ := bit_in g1 z0
      have e8 := eight_bits n c _ _ _ _ _ _ _ _ 2305843009213688668 hsum
      have hi : ilt (k : Int) 32 = true := ilt_true (by omega)
      have hib : inb (k : Int) 32 = true := inb_true (by omega) (by omega)
      have ha : iadd .i64 (k : Int) 1 = ((k + 1 : Nat) : Int) := by rw [iadd_i64 (by omega) (by omega)]; omega
      simp only [hi, hib, ha, sel_true, Int.toNat_natCast, n1, b7, b6, b5, b4, b3, b2, b1, b0, f7, f6, f5, f4, f3, f2, f1, f0, e8]
  · right
    obtain rfl : k = 32 := by omega
    intro R kn kx
    rw [r5from.L0.step]
    simp (disch := omega) only [↓N.lt, ↓N.le, ↓N.gt, ↓N.ge, ↓N.eq, ↓N.ne, ↓N.ib, ↓N.ic, ↓N.nn, ↓N.nz, ↓N.dc, ↓N.rm, ↓N.an, ↓N.or, ↓N.no, ↓if_pos, ↓if_neg, ↓sel_true, ↓sel_false, ↓obind_some, if_pos, if_neg, obind_some, N.aNN, N.aNL, N.aLN, N.sNN, N.sNL, N.sLN, N.mNN, N.mNL, N.mLN, N.qNN, N.qNL, N.rNN, N.rNL, N.cN, N.cL, N.tL, Int.toNat_natCast, if_true, if_false, and_self, true_and, and_true, r5from.L0.add, r5from.L0.F]
    rw [List.drop_of_length_le (by omega)]
    rfl
theorem r5from.ok : ∀ d, r5from.Pre d → arun Try.prog r5from.G r5from.an 12 Try.f90 (r5from.st d).1 (r5from.st d).2 some = some (r5from.out (r5from.add d (r5from.F d))) := by
  rintro h ⟨hl, hb⟩
  have e := fromF_ok h 0 ⟨by omega, by omega⟩
  have h1 := e.1
  have h2 := e.2
  rw [r5from.eq, r5from.L0.run (d := (h, 0, 0)) ⟨⟨by omega, by omega⟩, hl, hb, 0, by omega, rfl⟩]
  simp only [obind_some, r5from.L0.add, r5from.L0.F, r5from.add, r5from.F, fromQ, Int.toNat_zero, List.drop_zero]
  revert h1 h2
  generalize h.foldl (fun n b => (n * 256 + b) % 2305843009213688668) 0 = m
  intro h1 h2
  have e : iadd .u64 m 1 = m + 1 := by rw [iadd_um]; omega
  rw [e]

theorem r5from.inj : ∀ d d', r5from.st d = r5from.st d' → d = d' := fun h h' hEq => by
  have e0 : h = h' := d_inj (t := (.arr 32 (.int .u8))) (congrArg (fun s : List AVal × List Ent => (s.1.getD 0 .undef)) hEq)
  rw [e0]
noncomputable def r5from.E : Entry := Entry.of [some (.arr 32 (.int .u8))] r5from.st r5from.Pre (fun d => r5from.add d (r5from.F d)) r5from.out
noncomputable def r5from.call : r5from.D → Option r5from.X := fun d => r5from.E.run (r5from.st d).1 (r5from.st d).2
theorem r5from.run {d : r5from.D} (h : r5from.Pre d) : r5from.call d = some (r5from.add d (r5from.F d)) := Entry.of_run r5from.inj h
theorem r5from.does : Does Try.prog 90 r5from.E := Does.of (by kernel_rfl) (show Sound _ r5from.G from Sound.nil _) (by kernel_rfl) (by kernel_rfl) (by kernel_rfl) (LOk.fn 2 (by kernel_rfl) (And.intro (LDo.of (by kernel_rfl) r5from.L0.ok) (And.intro (LDo.none (by kernel_rfl)) trivial))) r5from.ok

end Go.Ab
