/-
  Made by a program of mine (wip/gen), and by hand.
-/
import Derived.Test.YtdmpbapgnkdjpaaSl2
namespace Go.Ab
open Go.Proofs
set_option maxRecDepth 100000
set_option linter.unusedVariables false
set_option linter.unusedSimpArgs false


theorem strmN_take (key : List Int) (m : Nat) : ∀ j, (strmN key (m + j)).take (32 * m) = strmN key m
  | 0 => List.take_of_length_le (by rw [Nat.add_zero, strmN_length]; omega)
  | j + 1 => by
    rw [show m + (j + 1) = (m + j) + 1 by omega, strmN, List.take_append_of_le_length (by rw [strmN_length]; omega), strmN_take key m j]
/-- A shorter stream is where a longer one begins. -/
theorem strmT_take (key : List Int) {n m : Nat} (h : n ≤ m) : cut (strmT key m) 0 n = strmT key n := by
  unfold cut strmT strm
  rw [List.drop_zero, List.take_take, Nat.min_eq_left h, ← strmN_take key ((n + 31) / 32) ((m + 31) / 32 - (n + 31) / 32), List.take_take, Nat.min_eq_left (by omega)]
  rw [show (n + 31) / 32 + ((m + 31) / 32 - (n + 31) / 32) = (m + 31) / 32 by omega]
theorem strmT_get (key : List Int) {n m i : Nat} (h : n ≤ m) (hi : i < n) : (strmT key m)[i]'(by rw [strmT_length]; omega) = (strmT key n)[i]'(by rw [strmT_length]; exact hi) := by
  have e := strmT_take key h
  have : (strmT key n)[i]? = (cut (strmT key m) 0 n)[i]? := by rw [e]
  unfold cut at this
  rw [List.drop_zero, List.getElem?_take, if_pos hi, List.getElem?_eq_getElem (by rw [strmT_length]; exact hi), List.getElem?_eq_getElem (by rw [strmT_length]; omega)] at this
  exact (Option.some.inj this).symm
theorem strmT_block (key : List Int) {n k : Nat} (h : 32 * k + 32 ≤ n) : cut (strmT key n) (32 * k) 32 = smA key k := by
  have e := strmT_take key (show 32 * (k + 1) ≤ n by omega)
  have e2 : strmT key (32 * (k + 1)) = strmN key k ++ smA key k := by
    unfold strmT strm
    rw [show (32 * (k + 1) + 31) / 32 = k + 1 by omega, List.take_of_length_le (by rw [strmN_length]; omega)]
    rfl
  rw [e2] at e
  have : cut (cut (strmT key n) 0 (32 * (k + 1))) (32 * k) 32 = cut (strmT key n) (32 * k) 32 := by
    unfold cut
    rw [List.drop_zero, List.drop_take, List.take_take, Nat.min_eq_left (by omega)]
  rw [← this, e]
  unfold cut
  rw [List.drop_append_of_le_length (by rw [strmN_length]; omega), List.drop_of_length_le (by rw [strmN_length]; omega), List.nil_append, List.take_of_length_le (by rw [smA_length]; omega)]
theorem be8_small {n : Int} (h0 : 0 ≤ n) (h : n < 256) : be8 n = [0, 0, 0, 0, 0, 0, 0, n] := by
  unfold be8
  rw [show n / 2 ^ 56 % 256 = 0 by omega, show n / 2 ^ 48 % 256 = 0 by omega, show n / 2 ^ 40 % 256 = 0 by omega, show n / 2 ^ 32 % 256 = 0 by omega, show n / 2 ^ 24 % 256 = 0 by omega, show n / 2 ^ 16 % 256 = 0 by omega, show n / 2 ^ 8 % 256 = 0 by omega, show n % 256 = n by omega]
theorem icv_u8_small {n : Int} (h0 : 0 ≤ n) (h : n < 256) : icv .u8 n = n := by
  rw [icv_u8, vw_ofInt]
  omega

/-! ### corsned/corsnedlaw09.SealStreams -/
abbrev lstreams.L0.D := (List Int) × Bool × Int × Nat × Int × (List Int)
def lstreams.L0.st : lstreams.L0.D → AS := fun (key_2, head, a, sL, i, n24) => ⟨[.undef, .undef, .undef, .rptr (.arr 32 (.int .u8)) key_2, .undef, .undef, .undef, .d .bool head, .d (.int .i64) a, .undef, .sref (.new 24 0) 0 [] 0 0 sL, .undef, .d (.int .i64) i, .undef, .undef, .undef, .undef, .undef, .undef, .undef, .undef, .undef, .undef, .undef, .undef, .undef, .undef, .undef, .undef, .undef, .undef, .undef, .undef, .undef, .undef, .undef, .undef, .undef, .undef, .undef, .undef, .undef, .undef, .undef, .undef, .undef, .undef, .undef, .undef, .undef, .undef, .undef, .undef, .undef, .undef, .undef, .undef, .undef, .undef, .undef, .undef, .undef, .undef, .undef, .undef, .undef, .undef, .undef, .undef, .undef, .undef, .undef, .undef, .undef, .undef, .undef, .undef], [], [[], [], [], [], [], [], [], [], [], [], [], [], [], [], [], [], [], [], [], [], [], [], [], [], [.obj 0 false (.vec 5 (.int .u8) n24)], [], [], [], [], [], [], [], [], [], [], [], [], [], [], [], [], [], [], [], [], [], [], [], [], [], [], [], [], [], [], [], [], [], [], [], [], [], [], [], [], [], [], [], [], [], [], [], [], [], [], [], []]⟩
abbrev lstreams.L0.Y0 := Unit
abbrev lstreams.L0.X0 := Unit
def lstreams.L0.ex0 : lstreams.L0.X0 → Exit × AS := fun x => (.ret, ⟨[.undef, .undef, .undef, .undef, .undef, .undef, .d .bool false, .undef, .undef, .undef, .undef, .undef, .undef, .undef, .undef, .undef, .undef, .undef, .undef, .undef, .undef, .undef, .undef, .undef, .undef, .undef, .undef, .undef, .undef, .undef, .undef, .undef, .undef, .undef, .undef, .undef, .undef, .undef, .undef, .undef, .undef, .undef, .undef, .undef, .undef, .undef, .undef, .undef, .undef, .undef, .undef, .undef, .undef, .undef, .undef, .undef, .undef, .undef, .undef, .undef, .undef, .undef, .undef, .undef, .undef, .undef, .undef, .undef, .undef, .undef, .undef, .undef, .undef, .undef, .undef, .undef, .undef], [], (List.replicate 77 [])⟩)
abbrev lstreams.L0.Y1 := Unit
abbrev lstreams.L0.X1 := Bool
def lstreams.L0.ex1 : lstreams.L0.X1 → Exit × AS := fun x => (.exit 0, ⟨[.undef, .undef, .undef, .undef, .undef, .undef, .undef, .d .bool x, .undef, .undef, .undef, .undef, .undef, .undef, .undef, .undef, .undef, .undef, .undef, .undef, .undef, .undef, .undef, .undef, .undef, .undef, .undef, .undef, .undef, .undef, .undef, .undef, .undef, .undef, .undef, .undef, .undef, .undef, .undef, .undef, .undef, .undef, .undef, .undef, .undef, .undef, .undef, .undef, .undef, .undef, .undef, .undef, .undef, .undef, .undef, .undef, .undef, .undef, .undef, .undef, .undef, .undef, .undef, .undef, .undef, .undef, .undef, .undef, .undef, .undef, .undef, .undef, .undef, .undef, .undef, .undef, .undef], [], (List.replicate 77 [])⟩)
abbrev lstreams.L0.X := (lstreams.L0.X0) ⊕ (lstreams.L0.X1)
abbrev lstreams.L0.Y := (lstreams.L0.Y0) ⊕ (lstreams.L0.Y1)
def lstreams.L0.out : lstreams.L0.X → Out (Exit × AS) := fun x => .br x.isLeft (.get x.getLeft? fun a => .ok (lstreams.L0.ex0 a)) (.get x.getRight? fun b => .ok (lstreams.L0.ex1 b))
def lstreams.L0.add : lstreams.L0.D → lstreams.L0.Y → lstreams.L0.X := fun (key_2, head, a, sL, i, n24) y => match y with | .inl y => .inl y | .inr z => .inr (head)
abbrev lstreams.D := (List Int) × Int × Int
def lstreams.st : lstreams.D → List AVal × List Ent := fun (key, n, m) => ([.d (.arr 32 (.int .u8)) key, .d (.int .u16) n, .d (.int .u16) m], [])
abbrev lstreams.Y := Bool
abbrev lstreams.X := Bool
def lstreams.out : lstreams.X → GRes := fun x => ⟨.d .bool x, [], []⟩
def lstreams.add : lstreams.D → lstreams.Y → lstreams.X := fun (key, n, m) y => y


def lstreams.L0.Pre : lstreams.L0.D → Prop := fun (key, head, a, m, i, l) => key.length = 32 ∧ 0 ≤ a ∧ a ≤ 1000 ∧ m = a.toNat ∧ l = strmT key a.toNat ∧ ∃ k : Nat, 32 * k ≤ a ∧ i = k
def lstreams.L0.F : lstreams.L0.D → lstreams.L0.Y := fun _ => .inr ()
def lstreams.Pre : lstreams.D → Prop := fun (key, a, b) => key.length = 32 ∧ 0 ≤ a ∧ a < 65536 ∧ 0 ≤ b ∧ b < 65536
def lstreams.F : lstreams.D → lstreams.Y := fun _ => true

noncomputable def lstreams.G : Gam := gcons 13 anyArgs small9.E (gcons 16 anyArgs sstream.E (gcons 20 anyArgs htag.E (gnil)))
noncomputable def lstreams.L0.E : LEntry := LEntry.of lstreams.L0.st lstreams.L0.Pre (fun d => lstreams.L0.add d (lstreams.L0.F d)) lstreams.L0.out
noncomputable def lstreams.L0.call : lstreams.L0.D → Option lstreams.L0.X := fun d => lstreams.L0.E.run (lstreams.L0.st d)
noncomputable def lstreams.an : Ann := {
  objs := [],
  loops := fun r => bif Nat.beq r 9 then { keep := [3, 7, 8, 10, 12], sites := [24], frz := [], data := [], owns := [] } else { keep := [], sites := [], frz := [], data := [], owns := [] },
  outs := fun r b => bif Nat.beq r 9 then (bif b then { keep := [6], sites := [], frz := [], data := [], owns := [] } else { keep := [7], sites := [], frz := [], data := [], owns := [] }) else { keep := [], sites := [], frz := [], data := [], owns := [] },
  sums := fun r => bif Nat.beq r 9 then some lstreams.L0.E else none,
  owns := [],
  trim := [],
  res := [] }
theorem lstreams.L0.inj : ∀ d d', lstreams.L0.st d = lstreams.L0.st d' → d = d' := fun (key_2, head, a, sL, i, n24) (key_2', head', a', sL', i', n24') hEq => by
  have e0 : key_2 = key_2' := rptr_inj (t := (.arr 32 (.int .u8))) (congrArg (fun s : AS => (s.slot 3)) hEq)
  have e1 : head = head' := d_inj (t := .bool) (congrArg (fun s : AS => (s.slot 7)) hEq)
  have e2 : a = a' := d_inj (t := (.int .i64)) (congrArg (fun s : AS => (s.slot 8)) hEq)
  have e3 : sL = sL' := congrArg (fun s : AS => srefLen (s.slot 10)) hEq
  have e4 : i = i' := d_inj (t := (.int .i64)) (congrArg (fun s : AS => (s.slot 12)) hEq)
  have e5 : n24 = n24' := vec_inj (e := 5) (t := (.int .u8)) (congrArg (fun s : AS => (entC (s.ent (.new 24 0)))) hEq)
  rw [e0, e1, e2, e3, e4, e5]
theorem lstreams.L0.run {d : lstreams.L0.D} (h : lstreams.L0.Pre d) : lstreams.L0.call d = some (lstreams.L0.add d (lstreams.L0.F d)) := LEntry.of_run lstreams.L0.inj h
theorem lstreams.L0.byRounds (μ : lstreams.L0.D → Nat) (h : ∀ d, lstreams.L0.Pre d → (∃ d', lstreams.L0.Pre d' ∧ μ d' < μ d ∧ lstreams.L0.add d' (lstreams.L0.F d') = lstreams.L0.add d (lstreams.L0.F d) ∧ ∀ {R : Type} (kn : AS → Option R) (kx : Exit → AS → Option R), lround Try.prog lstreams.G lstreams.an 0 Try.f5 0 (lstreams.L0.st d) kn kx = kn (lstreams.L0.st d')) ∨ (∃ r, (lstreams.L0.out (lstreams.L0.add d (lstreams.L0.F d))).eval = some r ∧ ∀ {R : Type} (kn : AS → Option R) (kx : Exit → AS → Option R), lround Try.prog lstreams.G lstreams.an 0 Try.f5 0 (lstreams.L0.st d) kn kx = kx r.1 r.2)) : ∀ d, lstreams.L0.Pre d → ∃ n, lrun Try.prog lstreams.G lstreams.an 0 Try.f5 0 n (lstreams.L0.st d) (fun e s => some (e, s)) = (lstreams.L0.out (lstreams.L0.add d (lstreams.L0.F d))).eval := lrun_of (F := fun d => lstreams.L0.add d (lstreams.L0.F d)) (out := lstreams.L0.out) μ h
theorem lstreams.L0.step {R : Type} (key_2 : (List Int)) (head : Bool) (a : Int) (sL : Nat) (i : Int) (n24 : (List Int)) (kn : AS → Option R) (kx : Exit → AS → Option R) : lround Try.prog lstreams.G lstreams.an 0 Try.f5 0 (lstreams.L0.st (key_2, head, a, sL, i, n24)) kn kx =
  sel ((ile (iadd .i64 (imul .i64 (32 : Int) i) (32 : Int)) a)) (
   obind (htag.call ((⟨#[115, 116, 114, 101, 97, 109]⟩ : ByteArray), [(cut key_2 0 32), [(0 : Int), (0 : Int), (0 : Int), (0 : Int), (0 : Int), (0 : Int), (0 : Int), (icv .u8 i)]])) fun x1 =>
   sel (decide (some 32 = some (List.length x1) ∧ 0 = 0)) (
   sel (decide (0 = 0 ∧ 32 ≤ (List.length x1))) (
   sel (inc (iadd .i64 (imul .i64 (32 : Int) i) (32 : Int)) ((sL : Nat) : Int)) (
   sel (inc (imul .i64 (32 : Int) i) (((Int.toNat (iadd .i64 (imul .i64 (32 : Int) i) (32 : Int))) : Nat) : Int)) (
   sel (decide ((0 + ((0 + (Int.toNat (imul .i64 (32 : Int) i))) * 1)) = (0 + ((Int.toNat (imul .i64 (32 : Int) i)) * 1)) ∧ ((0 + (Int.toNat (imul .i64 (32 : Int) i))) + ((Int.toNat (iadd .i64 (imul .i64 (32 : Int) i) (32 : Int))) - (Int.toNat (imul .i64 (32 : Int) i)))) ≤ (List.length n24))) (
   sel ((sne (strOfBytes (cut x1 0 32)) (strOfBytes (cut n24 (0 + (Int.toNat (imul .i64 (32 : Int) i))) ((Int.toNat (iadd .i64 (imul .i64 (32 : Int) i) (32 : Int))) - (Int.toNat (imul .i64 (32 : Int) i))))))) (
    kx (lstreams.L0.ex0 ()).1 (lstreams.L0.ex0 ()).2) (
    kn (lstreams.L0.st (key_2, head, a, sL, (iadd .i64 i (1 : Int)), n24)))) none) none) none) none) none) (
   kx (lstreams.L0.ex1 head).1 (lstreams.L0.ex1 head).2) := by kernel_rfl
theorem lstreams.eq {R : Type} (key : (List Int)) (n : Int) (m : Int) (k : GRes → Option R) : arun Try.prog lstreams.G lstreams.an 0 Try.f5 (lstreams.st (key, n, m)).1 (lstreams.st (key, n, m)).2 k =
  obind (small9.call ()) fun x1 =>
  obind (sstream.call (key, (icv .i64 (irem n (1001 : Int))))) fun x2 =>
  obind (sstream.call (key, (iadd .i64 (icv .i64 (irem n (1001 : Int))) (icv .i64 (irem m (1001 : Int)))))) fun x3 =>
  sel ((ine ((x2.1 : Nat) : Int) (icv .i64 (irem n (1001 : Int))))) (
   k (lstreams.out false)) (
   sel ((ine ((x3.1 : Nat) : Int) (iadd .i64 (icv .i64 (irem n (1001 : Int))) (icv .i64 (irem m (1001 : Int)))))) (
    k (lstreams.out false)) (
    sel (inc (icv .i64 (irem n (1001 : Int))) ((x3.1 : Nat) : Int)) (
    sel (decide (0 = 0 ∧ (0 + ((Int.toNat (icv .i64 (irem n (1001 : Int)))) - 0)) ≤ (List.length x3.2))) (
    sel (decide (0 = 0 ∧ (0 + x2.1) ≤ (List.length x2.2))) (
    sel ((sne (strOfBytes (cut x3.2 0 ((Int.toNat (icv .i64 (irem n (1001 : Int)))) - 0))) (strOfBytes (cut x2.2 0 x2.1)))) (
     k (lstreams.out false)) (
     obind (lstreams.L0.call (key, x1, (icv .i64 (irem n (1001 : Int))), x2.1, (0 : Int), x2.2)) fun x5 =>
     sel (x5.isLeft) (
      obind (x5.getLeft?) fun a6 =>
      k (lstreams.out false)) (
      obind (x5.getRight?) fun b7 =>
      k (lstreams.out b7)))) none) none) none)) := by kernel_rfl


theorem sts_pre {key : List Int} (hk : key.length = 32) {b : List Int} (hb : b.length ≤ 1000000) : htag.Pre ((⟨#[115, 116, 114, 101, 97, 109]⟩ : ByteArray), [key, b]) := by
  show (tagb _ _).length ≤ _
  rw [tagb_length]
  simp only [tagp, List.flatMap_cons, List.flatMap_nil, List.length_append, be8_length, bytesOfStr_length, List.append_nil]
  show 8 + 6 + _ ≤ _
  omega
theorem sts_add (key : List Int) (k : Int) : htag.add ((⟨#[115, 116, 114, 101, 97, 109]⟩ : ByteArray), [key, be8 k]) (htag.F ((⟨#[115, 116, 114, 101, 97, 109]⟩ : ByteArray), [key, be8 k])) = smA key k := rfl
theorem lstreams.L0.ok : ∀ d, lstreams.L0.Pre d → ∃ n, lrun Try.prog lstreams.G lstreams.an 0 Try.f5 0 n (lstreams.L0.st d) (fun e s => some (e, s)) = (lstreams.L0.out (lstreams.L0.add d (lstreams.L0.F d))).eval := by
  refine lstreams.L0.byRounds (fun (key, head, a, m, i, l) => 2000 - i.toNat) ?_
  rintro ⟨key, head, a, m, i, l⟩ ⟨hk, h0, h1, rfl, rfl, k, hka, rfl⟩
  have hka : 32 * (k : Int) ≤ a := hka
  have hk : key.length = 32 := hk
  have h0 : 0 ≤ a := h0
  have h1 : a ≤ 1000 := h1
  have e1 : ∀ k : Nat, k ≤ 2000 → imul .i64 (32 : Int) (k : Int) = ((32 * k : Nat) : Int) := fun k hk => by rw [imul_i64 (by omega) (by omega)]; omega
  have e2 : ∀ k : Nat, k ≤ 2000 → iadd .i64 ((32 * k : Nat) : Int) (32 : Int) = ((32 * k + 32 : Nat) : Int) := fun k hk => by rw [iadd_i64 (by omega) (by omega)]; omega
  have e3 : ∀ k : Nat, k ≤ 2000 → iadd .i64 (k : Int) 1 = ((k + 1 : Nat) : Int) := fun k hk => by rw [iadd_i64 (by omega) (by omega)]; omega
  have hk2 : k ≤ 2000 := by omega
  by_cases h : 32 * k + 32 ≤ a
  · left
    have p1 := sts_pre hk (b := be8 k) (by rw [be8_length]; omega)
    have b1 : [(0 : Int), (0 : Int), (0 : Int), (0 : Int), (0 : Int), (0 : Int), (0 : Int), (icv .u8 (k : Int))] = be8 k := by rw [be8_small (by omega) (by omega), icv_u8_small (by omega) (by omega)]
    have c1 : cut (smA key k) 0 32 = smA key k := cut_all _ _ (by rw [smA_length]; omega)
    have hb := strmT_block key (n := a.toNat) (k := k) (by omega)
    refine ⟨(key, head, a, a.toNat, ((k + 1 : Nat) : Int), strmT key a.toNat), ⟨hk, h0, h1, rfl, rfl, k + 1, by show 32 * ((k + 1 : Nat) : Int) ≤ a; omega, rfl⟩, by show 2000 - Int.toNat ((k + 1 : Nat) : Int) < 2000 - Int.toNat (k : Int); omega, rfl, fun kn kx => ?_⟩
    rw [lstreams.L0.step, e1 k hk2, e2 k hk2, e3 k hk2, ile_true (by omega), b1, cut_all key 32 (by omega), htag.run p1, sts_add]
    have hle : (32 * k + 32 ≤ a.toNat) = True := eq_true (by omega)
    have z1 : 32 * k + 32 - 32 * k = 32 := by omega
    simp only [sel_true, obind_some, smA_length, Int.toNat_natCast, z1, Nat.zero_add, Nat.mul_one, hb, c1, sne_bytes rfl, sel_false, strmT_length, hle, Nat.le_refl, and_self, decide_true]
    rw [inc_true (by omega) (by omega), inc_true (by omega) (by omega)]
    rfl
  · right
    refine ⟨_, rfl, fun kn kx => ?_⟩
    rw [lstreams.L0.step, e1 k hk2, e2 k hk2, ile_false (by omega)]
    rfl
theorem lstreams.ok : ∀ d, lstreams.Pre d → arun Try.prog lstreams.G lstreams.an 0 Try.f5 (lstreams.st d).1 (lstreams.st d).2 some = some (lstreams.out (lstreams.add d (lstreams.F d))) := by
  rintro ⟨key, a, b⟩ ⟨hk, ha, ha1, hb, hb1⟩
  have hk : key.length = 32 := hk
  have ha : 0 ≤ a := ha
  have ha1 : a < 65536 := ha1
  have hb : 0 ≤ b := hb
  have hb1 : b < 65536 := hb1
  have m1 : ∀ x : Int, 0 ≤ x → icv .i64 (irem x 1001) = ((x.toNat % 1001 : Nat) : Int) := fun x hx => by
    obtain ⟨n, rfl⟩ := Int.eq_ofNat_of_zero_le hx
    unfold irem
    rw [Int.tmod_eq_emod_of_nonneg (by omega), icv_i64 (by omega) (by omega)]
    omega
  have e1 : small9.add () (small9.F ()) = true := rfl
  have k1 : a.toNat % 1001 < 1001 := Nat.mod_lt _ (by omega)
  have k2 : b.toNat % 1001 < 1001 := Nat.mod_lt _ (by omega)
  rw [lstreams.eq, small9.run trivial, e1, m1 a ha, m1 b hb]
  generalize a.toNat % 1001 = n at k1 ⊢
  generalize b.toNat % 1001 = m at k2 ⊢
  have q : iadd .i64 ((n : Nat) : Int) ((m : Nat) : Int) = ((n + m : Nat) : Int) := by rw [iadd_i64 (by omega) (by omega)]; omega
  have p1 : ∀ x, sstream.Pre (key, x) := fun _ => hk
  have p2 : lstreams.L0.Pre (key, true, (n : Int), n, 0, strmT key n) := ⟨hk, by omega, by omega, by omega, by rw [Int.toNat_natCast], 0, by omega, rfl⟩
  rw [q]
  have w : ∀ x : Nat, x ≤ 65536 → sstream.add (key, (x : Int)) (sstream.F (key, (x : Int))) = (x, strmT key x) := fun x hx => by rw [sstream_in (by omega) (by omega), Int.toNat_natCast]
  simp only [obind_some, sstream.run (p1 _), w n (by omega), w (n + m) (by omega), ine_false rfl, sel_false, Int.toNat_natCast, Nat.sub_zero, strmT_take key (show n ≤ n + m by omega), strmT_take key (Nat.le_refl n), sne_bytes rfl, lstreams.L0.run p2, strmT_length]
  rw [inc_true (by omega) (by omega), dec_true ⟨trivial, by omega⟩, dec_true ⟨trivial, by omega⟩]
  rfl

theorem lstreams.inj : ∀ d d', lstreams.st d = lstreams.st d' → d = d' := fun (key, n, m) (key', n', m') hEq => by
  have e0 : key = key' := d_inj (t := (.arr 32 (.int .u8))) (congrArg (fun s : List AVal × List Ent => (s.1.getD 0 .undef)) hEq)
  have e1 : n = n' := d_inj (t := (.int .u16)) (congrArg (fun s : List AVal × List Ent => (s.1.getD 1 .undef)) hEq)
  have e2 : m = m' := d_inj (t := (.int .u16)) (congrArg (fun s : List AVal × List Ent => (s.1.getD 2 .undef)) hEq)
  rw [e0, e1, e2]
noncomputable def lstreams.E : Entry := Entry.of [some (.arr 32 (.int .u8)), some (.int .u16), some (.int .u16)] lstreams.st lstreams.Pre (fun d => lstreams.add d (lstreams.F d)) lstreams.out
noncomputable def lstreams.call : lstreams.D → Option lstreams.X := fun d => lstreams.E.run (lstreams.st d).1 (lstreams.st d).2
theorem lstreams.run {d : lstreams.D} (h : lstreams.Pre d) : lstreams.call d = some (lstreams.add d (lstreams.F d)) := Entry.of_run lstreams.inj h
theorem lstreams.does : Does Try.prog 5 lstreams.E := Does.of (by kernel_rfl) (show Sound _ lstreams.G from Sound.cons small9.does (Sound.cons sstream.does (Sound.cons htag.does (Sound.nil _)))) (by kernel_rfl) (by kernel_rfl) (by kernel_rfl) (LOk.fn 1 (by kernel_rfl) (And.intro (LDo.of (by kernel_rfl) lstreams.L0.ok) trivial)) lstreams.ok

end Go.Ab
