/-
  Made by a program of mine (wip/gen), and by hand.
-/
import Derived.Test.YtdmpbapgnkdjpaaSl3
namespace Go.Ab
open Go.Proofs
set_option maxRecDepth 100000
set_option linter.unusedVariables false

/-! ### corsned/corsnedlaw09.SealOver -/
abbrev lover.L0.D := (List Int) × (List Int) × Bool × (List Int) × (List Int) × Nat × Int × (List Int)
def lover.L0.st : lover.L0.D → AS := fun (a_2, b_2, head, sv, t, uL, i, n31) => ⟨[.undef, .d (.slice (.int .u8)) a_2, .d (.slice (.int .u8)) b_2, .undef, .undef, .undef, .undef, .d .bool head, .d (.slice (.int .u8)) sv, .d (.slice (.int .u8)) t, .sref (.new 31 0) 0 [] 0 0 uL, .d (.int .i64) i, .undef, .undef, .undef, .undef, .undef, .undef, .undef, .undef, .undef, .undef, .undef, .undef, .undef, .undef, .undef, .undef, .undef, .undef, .undef, .undef, .undef, .undef, .undef, .undef, .undef, .undef, .undef, .undef, .undef, .undef, .undef, .undef, .undef, .undef, .undef, .undef, .undef, .undef, .undef, .undef, .undef, .undef, .undef, .undef, .undef, .undef, .undef, .undef, .undef, .undef, .undef, .undef, .undef, .undef, .undef, .undef, .undef, .undef, .undef, .undef, .undef, .undef, .undef, .undef, .undef, .undef, .undef, .undef, .undef, .undef, .undef, .undef, .undef, .undef, .undef, .undef, .undef, .undef, .undef, .undef, .undef, .undef, .undef, .undef, .undef, .undef, .undef, .undef, .undef], [], [[], [], [], [], [], [], [], [], [], [], [], [], [], [], [], [], [], [], [], [], [], [], [], [], [], [], [], [], [], [], [], [.obj 0 false (.vec 5 (.int .u8) n31)], [], [], [], [], [], [], [], [], [], [], [], [], [], [], [], [], [], [], [], [], [], [], [], [], [], [], [], [], [], [], [], [], [], [], [], [], [], [], [], [], [], [], [], [], [], [], [], [], [], [], [], [], [], [], [], [], [], [], [], [], [], [], [], [], [], [], [], [], []]⟩
abbrev lover.L0.Y0 := Unit
abbrev lover.L0.X0 := Unit
def lover.L0.ex0 : lover.L0.X0 → Exit × AS := fun x => (.ret, ⟨[.undef, .undef, .undef, .undef, .undef, .undef, .d .bool false, .undef, .undef, .undef, .undef, .undef, .undef, .undef, .undef, .undef, .undef, .undef, .undef, .undef, .undef, .undef, .undef, .undef, .undef, .undef, .undef, .undef, .undef, .undef, .undef, .undef, .undef, .undef, .undef, .undef, .undef, .undef, .undef, .undef, .undef, .undef, .undef, .undef, .undef, .undef, .undef, .undef, .undef, .undef, .undef, .undef, .undef, .undef, .undef, .undef, .undef, .undef, .undef, .undef, .undef, .undef, .undef, .undef, .undef, .undef, .undef, .undef, .undef, .undef, .undef, .undef, .undef, .undef, .undef, .undef, .undef, .undef, .undef, .undef, .undef, .undef, .undef, .undef, .undef, .undef, .undef, .undef, .undef, .undef, .undef, .undef, .undef, .undef, .undef, .undef, .undef, .undef, .undef, .undef, .undef], [], (List.replicate 101 [])⟩)
abbrev lover.L0.Y1 := Unit
abbrev lover.L0.X1 := Bool
def lover.L0.ex1 : lover.L0.X1 → Exit × AS := fun x => (.exit 0, ⟨[.undef, .undef, .undef, .undef, .undef, .undef, .undef, .d .bool x, .undef, .undef, .undef, .undef, .undef, .undef, .undef, .undef, .undef, .undef, .undef, .undef, .undef, .undef, .undef, .undef, .undef, .undef, .undef, .undef, .undef, .undef, .undef, .undef, .undef, .undef, .undef, .undef, .undef, .undef, .undef, .undef, .undef, .undef, .undef, .undef, .undef, .undef, .undef, .undef, .undef, .undef, .undef, .undef, .undef, .undef, .undef, .undef, .undef, .undef, .undef, .undef, .undef, .undef, .undef, .undef, .undef, .undef, .undef, .undef, .undef, .undef, .undef, .undef, .undef, .undef, .undef, .undef, .undef, .undef, .undef, .undef, .undef, .undef, .undef, .undef, .undef, .undef, .undef, .undef, .undef, .undef, .undef, .undef, .undef, .undef, .undef, .undef, .undef, .undef, .undef, .undef, .undef], [], (List.replicate 101 [])⟩)
abbrev lover.L0.X := (lover.L0.X0) ⊕ (lover.L0.X1)
abbrev lover.L0.Y := (lover.L0.Y0) ⊕ (lover.L0.Y1)
def lover.L0.out : lover.L0.X → Out (Exit × AS) := fun x => .br x.isLeft (.get x.getLeft? fun a => .ok (lover.L0.ex0 a)) (.get x.getRight? fun b => .ok (lover.L0.ex1 b))
def lover.L0.add : lover.L0.D → lover.L0.Y → lover.L0.X := fun (a_2, b_2, head, sv, t, uL, i, n31) y => match y with | .inl y => .inl y | .inr z => .inr (head)
abbrev lover.D := (List Int) × (List Int) × (List Int)
def lover.st : lover.D → List AVal × List Ent := fun (key, a, b) => ([.d (.arr 32 (.int .u8)) key, .d (.slice (.int .u8)) a, .d (.slice (.int .u8)) b], [])
abbrev lover.Y := Bool
abbrev lover.X := Bool
def lover.out : lover.X → GRes := fun x => ⟨.d .bool x, [], []⟩
def lover.add : lover.D → lover.Y → lover.X := fun (key, a, b) y => y


def lover.L0.Pre : lover.L0.D → Prop := fun (a, b, head, s, t, m, i, l) => ∃ key, key.length = 32 ∧ Bytes a ∧ Bytes b ∧ a.length ≤ 1000 ∧ b.length ≤ 1000 ∧ s = sld key a ∧ t = sld key b ∧ m = a.length ∧ l = strmT key a.length ∧ ∃ k : Nat, k ≤ a.length ∧ i = k
def lover.L0.F : lover.L0.D → lover.L0.Y := fun _ => .inr ()
def lover.Pre : lover.D → Prop := fun (key, a, b) => key.length = 32 ∧ Bytes a ∧ Bytes b
def lover.F : lover.D → lover.Y := fun _ => true

noncomputable def lover.G : Gam := gcons 13 anyArgs small9.E (gcons 18 anyArgs sseal.E (gcons 16 anyArgs sstream.E (gnil)))
noncomputable def lover.L0.E : LEntry := LEntry.of lover.L0.st lover.L0.Pre (fun d => lover.L0.add d (lover.L0.F d)) lover.L0.out
noncomputable def lover.L0.call : lover.L0.D → Option lover.L0.X := fun d => lover.L0.E.run (lover.L0.st d)
noncomputable def lover.an : Ann := {
  objs := [],
  loops := fun r => bif Nat.beq r 10 then { keep := [1, 2, 7, 8, 9, 10, 11], sites := [31], frz := [], data := [], owns := [] } else { keep := [], sites := [], frz := [], data := [], owns := [] },
  outs := fun r b => bif Nat.beq r 10 then (bif b then { keep := [6], sites := [], frz := [], data := [], owns := [] } else { keep := [7], sites := [], frz := [], data := [], owns := [] }) else { keep := [], sites := [], frz := [], data := [], owns := [] },
  sums := fun r => bif Nat.beq r 10 then some lover.L0.E else none,
  owns := [],
  trim := [],
  res := [] }
theorem lover.L0.inj : ∀ d d', lover.L0.st d = lover.L0.st d' → d = d' := fun (a_2, b_2, head, sv, t, uL, i, n31) (a_2', b_2', head', sv', t', uL', i', n31') hEq => by
  have e0 : a_2 = a_2' := d_inj (t := (.slice (.int .u8))) (congrArg (fun s : AS => (s.slot 1)) hEq)
  have e1 : b_2 = b_2' := d_inj (t := (.slice (.int .u8))) (congrArg (fun s : AS => (s.slot 2)) hEq)
  have e2 : head = head' := d_inj (t := .bool) (congrArg (fun s : AS => (s.slot 7)) hEq)
  have e3 : sv = sv' := d_inj (t := (.slice (.int .u8))) (congrArg (fun s : AS => (s.slot 8)) hEq)
  have e4 : t = t' := d_inj (t := (.slice (.int .u8))) (congrArg (fun s : AS => (s.slot 9)) hEq)
  have e5 : uL = uL' := congrArg (fun s : AS => srefLen (s.slot 10)) hEq
  have e6 : i = i' := d_inj (t := (.int .i64)) (congrArg (fun s : AS => (s.slot 11)) hEq)
  have e7 : n31 = n31' := vec_inj (e := 5) (t := (.int .u8)) (congrArg (fun s : AS => (entC (s.ent (.new 31 0)))) hEq)
  rw [e0, e1, e2, e3, e4, e5, e6, e7]
theorem lover.L0.run {d : lover.L0.D} (h : lover.L0.Pre d) : lover.L0.call d = some (lover.L0.add d (lover.L0.F d)) := LEntry.of_run lover.L0.inj h
theorem lover.L0.byRounds (μ : lover.L0.D → Nat) (h : ∀ d, lover.L0.Pre d → (∃ d', lover.L0.Pre d' ∧ μ d' < μ d ∧ lover.L0.add d' (lover.L0.F d') = lover.L0.add d (lover.L0.F d) ∧ ∀ {R : Type} (kn : AS → Option R) (kx : Exit → AS → Option R), lround Try.prog lover.G lover.an 0 Try.f6 0 (lover.L0.st d) kn kx = kn (lover.L0.st d')) ∨ (∃ r, (lover.L0.out (lover.L0.add d (lover.L0.F d))).eval = some r ∧ ∀ {R : Type} (kn : AS → Option R) (kx : Exit → AS → Option R), lround Try.prog lover.G lover.an 0 Try.f6 0 (lover.L0.st d) kn kx = kx r.1 r.2)) : ∀ d, lover.L0.Pre d → ∃ n, lrun Try.prog lover.G lover.an 0 Try.f6 0 n (lover.L0.st d) (fun e s => some (e, s)) = (lover.L0.out (lover.L0.add d (lover.L0.F d))).eval := lrun_of (F := fun d => lover.L0.add d (lover.L0.F d)) (out := lover.L0.out) μ h
theorem lover.L0.step {R : Type} (a_2 : (List Int)) (b_2 : (List Int)) (head : Bool) (sv : (List Int)) (t : (List Int)) (uL : Nat) (i : Int) (n31 : (List Int)) (kn : AS → Option R) (kx : Exit → AS → Option R) : lround Try.prog lover.G lover.an 0 Try.f6 0 (lover.L0.st (a_2, b_2, head, sv, t, uL, i, n31)) kn kx =
  sel ((ilt i (((List.length a_2) : Nat) : Int))) (
   sel ((ilt i (((List.length b_2) : Nat) : Int))) (
    sel (inb i (((List.length sv) : Nat) : Int)) (
    sel (inb i (((List.length t) : Nat) : Int)) (
    sel (inb i (((List.length a_2) : Nat) : Int)) (
    sel (inb i (((List.length b_2) : Nat) : Int)) (
    sel ((ine (bitop .xor .u8 (nth (.int .u8) sv (Int.toNat i)) (nth (.int .u8) t (Int.toNat i))) (bitop .xor .u8 (nth (.int .u8) a_2 (Int.toNat i)) (nth (.int .u8) b_2 (Int.toNat i))))) (
     kx (lover.L0.ex0 ()).1 (lover.L0.ex0 ()).2) (
     sel (inb i (((List.length sv) : Nat) : Int)) (
     sel (inb i ((uL : Nat) : Int)) (
     sel (decide ((0 + (Int.toNat i)) < (List.length n31))) (
     sel (decide ((((0 + (Int.toNat i)) * 1) + 0) = (0 + ((Int.toNat i) * 1)))) (
     sel (inb i (((List.length a_2) : Nat) : Int)) (
     sel ((ine (bitop .xor .u8 (nth (.int .u8) sv (Int.toNat i)) (nth (.int .u8) n31 (0 + (Int.toNat i)))) (nth (.int .u8) a_2 (Int.toNat i)))) (
      kx (lover.L0.ex0 ()).1 (lover.L0.ex0 ()).2) (
      kn (lover.L0.st (a_2, b_2, head, sv, t, uL, (iadd .i64 i (1 : Int)), n31)))) none) none) none) none) none)) none) none) none) none) (
    sel (inb i (((List.length sv) : Nat) : Int)) (
    sel (inb i ((uL : Nat) : Int)) (
    sel (decide ((0 + (Int.toNat i)) < (List.length n31))) (
    sel (decide ((((0 + (Int.toNat i)) * 1) + 0) = (0 + ((Int.toNat i) * 1)))) (
    sel (inb i (((List.length a_2) : Nat) : Int)) (
    sel ((ine (bitop .xor .u8 (nth (.int .u8) sv (Int.toNat i)) (nth (.int .u8) n31 (0 + (Int.toNat i)))) (nth (.int .u8) a_2 (Int.toNat i)))) (
     kx (lover.L0.ex0 ()).1 (lover.L0.ex0 ()).2) (
     kn (lover.L0.st (a_2, b_2, head, sv, t, uL, (iadd .i64 i (1 : Int)), n31)))) none) none) none) none) none)) (
   kx (lover.L0.ex1 head).1 (lover.L0.ex1 head).2) := by kernel_rfl
theorem lover.eq {R : Type} (key : (List Int)) (a : (List Int)) (b : (List Int)) (k : GRes → Option R) : arun Try.prog lover.G lover.an 0 Try.f6 (lover.st (key, a, b)).1 (lover.st (key, a, b)).2 k =
  obind (small9.call ()) fun x1 =>
  sel ((igt (((List.length a) : Nat) : Int) (1000 : Int))) (
   k (lover.out x1)) (
   sel ((igt (((List.length b) : Nat) : Int) (1000 : Int))) (
    k (lover.out x1)) (
    obind (sseal.call (key, a)) fun x2 =>
    obind (sseal.call (key, b)) fun x3 =>
    obind (sstream.call (key, (((List.length a) : Nat) : Int))) fun x4 =>
    sel ((ine (((List.length x2) : Nat) : Int) (iadd .i64 (((List.length a) : Nat) : Int) (8 : Int)))) (
     k (lover.out false)) (
     sel ((ine (((List.length x3) : Nat) : Int) (iadd .i64 (((List.length b) : Nat) : Int) (8 : Int)))) (
      k (lover.out false)) (
      sel ((ine ((x4.1 : Nat) : Int) (((List.length a) : Nat) : Int))) (
       k (lover.out false)) (
       obind (lover.L0.call (a, b, x1, x2, x3, x4.1, (0 : Int), x4.2)) fun x5 =>
       sel (x5.isLeft) (
        obind (x5.getLeft?) fun a6 =>
        k (lover.out false)) (
        obind (x5.getRight?) fun b7 =>
        k (lover.out b7))))))) := by kernel_rfl


theorem sld_get {key b : List Int} {i : Nat} (h : i < b.length) : (sld key b)[i]'(by rw [sld_length]; omega) = bitop .xor .u8 ((strmT key b.length)[i]'(by rw [strmT_length]; exact h)) b[i] := by
  unfold sld
  rw [List.getElem_append_left (by rw [ov_length]; exact h), ov_get key b i h]
theorem xor_xx {x y z : Int} (hx : Byte x) (hy : Byte y) (hz : Byte z) : bitop .xor .u8 (bitop .xor .u8 x y) (bitop .xor .u8 x z) = bitop .xor .u8 y z := by
  rw [hx.vw, hy.vw, hz.vw]
  simp only [bitop_u8]
  congr 1
  ext i
  simp only [BitVec.getElem_xor]
  cases (BitVec.ofInt 8 x)[i] <;> simp
theorem xor_back {x y : Int} (hx : Byte x) (hy : Byte y) : bitop .xor .u8 (bitop .xor .u8 x y) x = y := by
  rw [hx.vw, hy.vw]
  simp only [bitop_u8]
  congr 1
  ext i
  simp only [BitVec.getElem_xor]
  cases (BitVec.ofInt 8 x)[i] <;> simp
theorem lover.L0.ok : ∀ d, lover.L0.Pre d → ∃ n, lrun Try.prog lover.G lover.an 0 Try.f6 0 n (lover.L0.st d) (fun e s => some (e, s)) = (lover.L0.out (lover.L0.add d (lover.L0.F d))).eval := by
  refine lover.L0.byRounds (fun (a, b, head, s, t, m, i, l) => a.length - i.toNat) ?_
  rintro ⟨a, b, head, s, t, m, i, l⟩ ⟨key, hk, ha, hb, la, lb, rfl, rfl, rfl, rfl, k, hka, rfl⟩
  have hk : key.length = 32 := hk
  have la : a.length ≤ 1000 := la
  have lb : b.length ≤ 1000 := lb
  have hka : k ≤ a.length := hka
  have e3 : iadd .i64 (k : Int) 1 = ((k + 1 : Nat) : Int) := by rw [iadd_i64 (by omega) (by omega)]; omega
  by_cases h : k < a.length
  · left
    have l1 := sld_length key a
    have l2 := sld_length key b
    have l3 := strmT_length key a.length
    have bs : Byte ((strmT key a.length)[k]'(by omega)) := bytes_strmT _ _ _ (List.getElem_mem _)
    have ba : Byte a[k] := ha _ (List.getElem_mem _)
    have n1 : nth (.int .u8) (sld key a) k = bitop .xor .u8 ((strmT key a.length)[k]'(by omega)) a[k] := by rw [nth_lt (t := .int .u8) (by omega), sld_get h]
    have n2 : nth (.int .u8) a k = a[k] := nth_lt (t := .int .u8) h
    have n3 : nth (.int .u8) (strmT key a.length) k = (strmT key a.length)[k]'(by omega) := nth_lt (t := .int .u8) (by omega)
    have i1 : inb (k : Int) (((sld key a).length : Nat) : Int) = true := inb_true (by omega) (by omega)
    have i2 : inb (k : Int) ((a.length : Nat) : Int) = true := inb_true (by omega) (by omega)
    have d1 : decide (k < (strmT key a.length).length) = true := dec_true (by omega)
    refine ⟨(a, b, head, sld key a, sld key b, a.length, ((k + 1 : Nat) : Int), strmT key a.length), ⟨key, hk, ha, hb, la, lb, rfl, rfl, rfl, rfl, k + 1, by omega, rfl⟩, by show a.length - Int.toNat ((k + 1 : Nat) : Int) < a.length - Int.toNat (k : Int); omega, rfl, fun kn kx => ?_⟩
    rw [lover.L0.step, ilt_true (by omega)]
    by_cases h2 : k < b.length
    · have bb : Byte b[k] := hb _ (List.getElem_mem _)
      have n4 : nth (.int .u8) b k = b[k] := nth_lt (t := .int .u8) h2
      have n5 : nth (.int .u8) (sld key b) k = bitop .xor .u8 ((strmT key a.length)[k]'(by omega)) b[k] := by
        rw [nth_lt (t := .int .u8) (by omega), sld_get h2]
        congr 1
        rcases Nat.le_total a.length b.length with hl | hl
        · exact strmT_get key hl h
        · exact (strmT_get key hl h2).symm
      have i3 : inb (k : Int) (((sld key b).length : Nat) : Int) = true := inb_true (by omega) (by omega)
      have i4 : inb (k : Int) ((b.length : Nat) : Int) = true := inb_true (by omega) (by omega)
      rw [ilt_true (by omega)]
      simp only [sel_true, i1, i2, i3, i4, e3, Int.toNat_natCast, Nat.zero_add, Nat.mul_one, Nat.add_zero, decide_true, d1, n1, n2, n3, n4, n5, xor_xx bs ba bb, xor_back bs ba, ine_false rfl, sel_false]
    · rw [ilt_false (by omega)]
      simp only [sel_true, i1, i2, e3, Int.toNat_natCast, Nat.zero_add, Nat.mul_one, Nat.add_zero, decide_true, d1, n1, n2, n3, xor_back bs ba, ine_false rfl, sel_false]
  · right
    refine ⟨_, rfl, fun kn kx => ?_⟩
    rw [lover.L0.step, ilt_false (by omega)]
    rfl
theorem lover.ok : ∀ d, lover.Pre d → arun Try.prog lover.G lover.an 0 Try.f6 (lover.st d).1 (lover.st d).2 some = some (lover.out (lover.add d (lover.F d))) := by
  rintro ⟨key, a, b⟩ ⟨hk, ha, hb⟩
  have hk : key.length = 32 := hk
  have e1 : small9.add () (small9.F ()) = true := rfl
  rw [lover.eq, small9.run trivial, e1]
  simp only [obind_some]
  by_cases h1 : 1000 < a.length
  · rw [igt_true (by omega)]; rfl
  rw [igt_false (by omega), sel_false]
  by_cases h2 : 1000 < b.length
  · rw [igt_true (by omega)]; rfl
  rw [igt_false (by omega), sel_false]
  have p1 : sseal.Pre (key, a) := hk
  have p2 : sseal.Pre (key, b) := hk
  have p3 : sstream.Pre (key, (a.length : Int)) := hk
  have q : ∀ x : List Int, x.length ≤ 1000 → iadd .i64 ((x.length : Nat) : Int) 8 = ((x.length + 8 : Nat) : Int) := fun x hx => by rw [iadd_i64 (by omega) (by omega)]; omega
  have p4 : lover.L0.Pre (a, b, true, sld key a, sld key b, a.length, 0, strmT key a.length) := ⟨key, hk, ha, hb, by omega, by omega, rfl, rfl, rfl, rfl, 0, by omega, rfl⟩
  have w : sstream.add (key, (a.length : Int)) (sstream.F (key, (a.length : Int))) = (a.length, strmT key a.length) := by rw [sstream_in (by omega) (by omega), Int.toNat_natCast]
  simp only [sseal.run p1, obind_some, sseal_add (show a.length ≤ 65536 by omega), sseal.run p2, sseal_add (show b.length ≤ 65536 by omega), sstream.run p3, w, q a (by omega), q b (by omega), sld_length, ine_false rfl, sel_false, lover.L0.run p4]
  rfl

theorem lover.inj : ∀ d d', lover.st d = lover.st d' → d = d' := fun (key, a, b) (key', a', b') hEq => by
  have e0 : key = key' := d_inj (t := (.arr 32 (.int .u8))) (congrArg (fun s : List AVal × List Ent => (s.1.getD 0 .undef)) hEq)
  have e1 : a = a' := d_inj (t := (.slice (.int .u8))) (congrArg (fun s : List AVal × List Ent => (s.1.getD 1 .undef)) hEq)
  have e2 : b = b' := d_inj (t := (.slice (.int .u8))) (congrArg (fun s : List AVal × List Ent => (s.1.getD 2 .undef)) hEq)
  rw [e0, e1, e2]
noncomputable def lover.E : Entry := Entry.of [some (.arr 32 (.int .u8)), some (.slice (.int .u8)), some (.slice (.int .u8))] lover.st lover.Pre (fun d => lover.add d (lover.F d)) lover.out
noncomputable def lover.call : lover.D → Option lover.X := fun d => lover.E.run (lover.st d).1 (lover.st d).2
theorem lover.run {d : lover.D} (h : lover.Pre d) : lover.call d = some (lover.add d (lover.F d)) := Entry.of_run lover.inj h
theorem lover.does : Does Try.prog 6 lover.E := Does.of (by kernel_rfl) (show Sound _ lover.G from Sound.cons small9.does (Sound.cons sseal.does (Sound.cons sstream.does (Sound.nil _)))) (by kernel_rfl) (by kernel_rfl) (by kernel_rfl) (LOk.fn 1 (by kernel_rfl) (And.intro (LDo.of (by kernel_rfl) lover.L0.ok) trivial)) lover.ok

end Go.Ab
