/-
  Made by a program of mine (wip/gen), and by hand.
-/
import Derived.Test.YtdmpbapgnkdjpaaSl5
namespace Go.Ab
open Go.Proofs
set_option maxRecDepth 100000
set_option linter.unusedVariables false

/-! ### corsned/corsnedlaw09.SealNew -/
abbrev lnew.L0.D := (List Int) × (List Int) × Bool × Nat × (List Int) × Nat × Nat × Bool × Int × (List Int) × (List Int) × (List Int)
def lnew.L0.st : lnew.L0.D → AS := fun (plain_2, key_2, head, wasL, sv, keptL, pL, okv, i, n19, n25, n31) => ⟨[.undef, .d (.slice (.int .u8)) plain_2, .rptr (.arr 32 (.int .u8)) key_2, .undef, .undef, .d .bool head, .sref (.new 19 0) 1 [] 0 0 wasL, .d (.slice (.int .u8)) sv, .sref (.new 25 0) 1 [] 0 0 keptL, .sref (.new 31 0) 0 [] 0 0 pL, .d .bool okv, .d (.int .i64) i, .undef, .undef, .undef, .undef, .undef, .undef, .undef, .undef, .undef, .undef, .undef, .undef, .undef, .undef, .undef, .undef, .undef, .undef, .undef, .undef, .undef, .undef, .undef, .undef, .undef, .undef, .undef, .undef, .undef, .undef, .undef, .undef, .undef, .undef, .undef, .undef, .undef, .undef, .undef, .undef, .undef, .undef, .undef, .undef, .undef, .undef, .undef, .undef, .undef, .undef, .undef, .undef, .undef, .undef, .undef, .undef, .undef, .undef, .undef, .undef, .undef, .undef, .undef, .undef, .undef, .undef, .undef, .undef, .undef, .undef], [], [[], [], [], [], [], [], [], [], [], [], [], [], [], [], [], [], [], [], [], [.obj 1 false (.vec 5 (.int .u8) n19)], [], [], [], [], [], [.obj 1 false (.vec 5 (.int .u8) n25)], [], [], [], [], [], [.obj 0 false (.vec 5 (.int .u8) n31)], [], [], [], [], [], [], [], [], [], [], [], [], [], [], [], [], [], [], [], [], [], [], [], [], [], [], [], [], [], [], [], [], [], [], [], [], [], [], [], [], [], [], [], [], [], [], [], [], [], []]⟩
abbrev lnew.L0.Y0 := Unit
abbrev lnew.L0.X0 := (List Int) × (List Int) × Bool × Nat × (List Int) × Nat × Bool × (List Int) × (List Int)
def lnew.L0.ex0 : lnew.L0.X0 → Exit × AS := fun x => (.exit 0, ⟨[.undef, .d (.slice (.int .u8)) x.1, .rptr (.arr 32 (.int .u8)) x.2.1, .undef, .undef, .d .bool x.2.2.1, .sref (.new 19 0) 1 [] 0 0 x.2.2.2.1, .d (.slice (.int .u8)) x.2.2.2.2.1, .sref (.new 25 0) 1 [] 0 0 x.2.2.2.2.2.1, .undef, .d .bool x.2.2.2.2.2.2.1, .undef, .undef, .undef, .undef, .undef, .undef, .undef, .undef, .undef, .undef, .undef, .undef, .undef, .undef, .undef, .undef, .undef, .undef, .undef, .undef, .undef, .undef, .undef, .undef, .undef, .undef, .undef, .undef, .undef, .undef, .undef, .undef, .undef, .undef, .undef, .undef, .undef, .undef, .undef, .undef, .undef, .undef, .undef, .undef, .undef, .undef, .undef, .undef, .undef, .undef, .undef, .undef, .undef, .undef, .undef, .undef, .undef, .undef, .undef, .undef, .undef, .undef, .undef, .undef, .undef, .undef, .undef, .undef, .undef, .undef, .undef], [], [[], [], [], [], [], [], [], [], [], [], [], [], [], [], [], [], [], [], [], [.obj 1 false (.vec 5 (.int .u8) x.2.2.2.2.2.2.2.1)], [], [], [], [], [], [.obj 1 false (.vec 5 (.int .u8) x.2.2.2.2.2.2.2.2)], [], [], [], [], [], [], [], [], [], [], [], [], [], [], [], [], [], [], [], [], [], [], [], [], [], [], [], [], [], [], [], [], [], [], [], [], [], [], [], [], [], [], [], [], [], [], [], [], [], [], [], [], [], [], [], []]⟩)
abbrev lnew.L0.X := lnew.L0.X0
abbrev lnew.L0.Y := lnew.L0.Y0
def lnew.L0.out : lnew.L0.X → Out (Exit × AS) := fun x => .ok (lnew.L0.ex0 x)
def lnew.L0.add : lnew.L0.D → lnew.L0.Y → lnew.L0.X := fun (plain_2, key_2, head, wasL, sv, keptL, pL, okv, i, n19, n25, n31) y => (plain_2, key_2, head, wasL, sv, keptL, okv, n19, n25)
abbrev lnew.D := (List Int) × (List Int)
def lnew.st : lnew.D → List AVal × List Ent := fun (key, plain) => ([.d (.arr 32 (.int .u8)) key, .d (.slice (.int .u8)) plain], [])
abbrev lnew.Y := Bool
abbrev lnew.X := Bool
def lnew.out : lnew.X → GRes := fun x => ⟨.d .bool x, [], []⟩
def lnew.add : lnew.D → lnew.Y → lnew.X := fun (key, plain) y => y


def lnew.L0.Pre : lnew.L0.D → Prop := fun (plain, key, head, wasL, s, keptL, m, ok, i, n19, n25, l) => m ≤ l.length ∧ m ≤ 2000 ∧ ∃ k : Nat, i = k
def lnew.L0.F : lnew.L0.D → lnew.L0.Y := fun _ => ()
def lnew.Pre : lnew.D → Prop := fun (key, a) => key.length = 32 ∧ Bytes a
def lnew.F : lnew.D → lnew.Y := fun _ => true

noncomputable def lnew.G : Gam := gcons 13 anyArgs small9.E (gcons 18 anyArgs sseal.E (gcons 14 anyArgs sopen.E (gnil)))
noncomputable def lnew.L0.E : LEntry := LEntry.of lnew.L0.st lnew.L0.Pre (fun d => lnew.L0.add d (lnew.L0.F d)) lnew.L0.out
noncomputable def lnew.L0.call : lnew.L0.D → Option lnew.L0.X := fun d => lnew.L0.E.run (lnew.L0.st d)
noncomputable def lnew.an : Ann := {
  objs := [19, 25],
  loops := fun r => bif Nat.beq r 9 then { keep := [1, 2, 5, 6, 7, 8, 9, 10, 11], sites := [19, 25, 31], frz := [], data := [], owns := [] } else { keep := [], sites := [], frz := [], data := [], owns := [] },
  outs := fun r b => bif Nat.beq r 9 then (bif b then { keep := [4], sites := [], frz := [], data := [], owns := [] } else { keep := [1, 2, 5, 6, 7, 8, 10], sites := [19, 25], frz := [], data := [], owns := [] }) else { keep := [], sites := [], frz := [], data := [], owns := [] },
  sums := fun r => bif Nat.beq r 9 then some lnew.L0.E else none,
  owns := [],
  trim := [],
  res := [] }
theorem lnew.L0.inj : ∀ d d', lnew.L0.st d = lnew.L0.st d' → d = d' := fun (plain_2, key_2, head, wasL, sv, keptL, pL, okv, i, n19, n25, n31) (plain_2', key_2', head', wasL', sv', keptL', pL', okv', i', n19', n25', n31') hEq => by
  have e0 : plain_2 = plain_2' := d_inj (t := (.slice (.int .u8))) (congrArg (fun s : AS => (s.slot 1)) hEq)
  have e1 : key_2 = key_2' := rptr_inj (t := (.arr 32 (.int .u8))) (congrArg (fun s : AS => (s.slot 2)) hEq)
  have e2 : head = head' := d_inj (t := .bool) (congrArg (fun s : AS => (s.slot 5)) hEq)
  have e3 : wasL = wasL' := congrArg (fun s : AS => srefLen (s.slot 6)) hEq
  have e4 : sv = sv' := d_inj (t := (.slice (.int .u8))) (congrArg (fun s : AS => (s.slot 7)) hEq)
  have e5 : keptL = keptL' := congrArg (fun s : AS => srefLen (s.slot 8)) hEq
  have e6 : pL = pL' := congrArg (fun s : AS => srefLen (s.slot 9)) hEq
  have e7 : okv = okv' := d_inj (t := .bool) (congrArg (fun s : AS => (s.slot 10)) hEq)
  have e8 : i = i' := d_inj (t := (.int .i64)) (congrArg (fun s : AS => (s.slot 11)) hEq)
  have e9 : n19 = n19' := vec_inj (e := 5) (t := (.int .u8)) (congrArg (fun s : AS => (entC (s.ent (.new 19 0)))) hEq)
  have e10 : n25 = n25' := vec_inj (e := 5) (t := (.int .u8)) (congrArg (fun s : AS => (entC (s.ent (.new 25 0)))) hEq)
  have e11 : n31 = n31' := vec_inj (e := 5) (t := (.int .u8)) (congrArg (fun s : AS => (entC (s.ent (.new 31 0)))) hEq)
  rw [e0, e1, e2, e3, e4, e5, e6, e7, e8, e9, e10, e11]
theorem lnew.L0.run {d : lnew.L0.D} (h : lnew.L0.Pre d) : lnew.L0.call d = some (lnew.L0.add d (lnew.L0.F d)) := LEntry.of_run lnew.L0.inj h
theorem lnew.L0.byRounds (μ : lnew.L0.D → Nat) (h : ∀ d, lnew.L0.Pre d → (∃ d', lnew.L0.Pre d' ∧ μ d' < μ d ∧ lnew.L0.add d' (lnew.L0.F d') = lnew.L0.add d (lnew.L0.F d) ∧ ∀ {R : Type} (kn : AS → Option R) (kx : Exit → AS → Option R), lround Try.prog lnew.G lnew.an 0 Try.f8 0 (lnew.L0.st d) kn kx = kn (lnew.L0.st d')) ∨ (∀ {R : Type} (kn : AS → Option R) (kx : Exit → AS → Option R), lround Try.prog lnew.G lnew.an 0 Try.f8 0 (lnew.L0.st d) kn kx = kx (lnew.L0.ex0 (lnew.L0.add d (lnew.L0.F d))).1 (lnew.L0.ex0 (lnew.L0.add d (lnew.L0.F d))).2)) : ∀ d, lnew.L0.Pre d → ∃ n, lrun Try.prog lnew.G lnew.an 0 Try.f8 0 n (lnew.L0.st d) (fun e s => some (e, s)) = (lnew.L0.out (lnew.L0.add d (lnew.L0.F d))).eval := lrun_one (F := fun d => lnew.L0.add d (lnew.L0.F d)) μ h
theorem lnew.L0.step {R : Type} (plain_2 : (List Int)) (key_2 : (List Int)) (head : Bool) (wasL : Nat) (sv : (List Int)) (keptL : Nat) (pL : Nat) (okv : Bool) (i : Int) (n19 : (List Int)) (n25 : (List Int)) (n31 : (List Int)) (kn : AS → Option R) (kx : Exit → AS → Option R) : lround Try.prog lnew.G lnew.an 0 Try.f8 0 (lnew.L0.st (plain_2, key_2, head, wasL, sv, keptL, pL, okv, i, n19, n25, n31)) kn kx =
  sel ((ilt i ((pL : Nat) : Int))) (
   sel (inb i ((pL : Nat) : Int)) (
   sel (decide ((0 + (Int.toNat i)) < (List.length n31))) (
   sel (decide ((((0 + (Int.toNat i)) * 1) + 0) = (0 + ((Int.toNat i) * 1)))) (
   sel (inb i ((pL : Nat) : Int)) (
   sel (decide ((0 + (Int.toNat i)) < (List.length n31))) (
   sel (decide ((((0 + (Int.toNat i)) * 1) + 0) = (0 + ((Int.toNat i) * 1)))) (
   sel (decide ((0 + (Int.toNat i)) < (List.length n31))) (
   kn (lnew.L0.st (plain_2, key_2, head, wasL, sv, keptL, pL, okv, (iadd .i64 i (1 : Int)), n19, n25, (List.set n31 (0 + (Int.toNat i)) (iadd .u8 (nth (.int .u8) n31 (0 + (Int.toNat i))) (1 : Int)))))) none) none) none) none) none) none) none) (
   kx (lnew.L0.ex0 (plain_2, key_2, head, wasL, sv, keptL, okv, n19, n25)).1 (lnew.L0.ex0 (plain_2, key_2, head, wasL, sv, keptL, okv, n19, n25)).2) := by kernel_rfl
theorem lnew.eq {R : Type} (key : (List Int)) (plain : (List Int)) (k : GRes → Option R) : arun Try.prog lnew.G lnew.an 0 Try.f8 (lnew.st (key, plain)).1 (lnew.st (key, plain)).2 k =
  obind (small9.call ()) fun x1 =>
  sel ((igt (((List.length plain) : Nat) : Int) (1000 : Int))) (
   k (lnew.out x1)) (
   sel (roomA (0 + (List.length plain)) 1) (
   obind (sseal.call (key, plain)) fun x2 =>
   sel (roomA (0 + (List.length x2)) 1) (
   obind (sopen.call (key, x2)) fun x3 =>
   obind (lnew.L0.call (plain, key, x1, (0 + (List.length plain)), x2, (0 + (List.length x2)), x3.1, x3.2.1, (0 : Int), ((List.take 0 (List.replicate 0 (0 : Int))) ++ plain), ((List.take 0 (List.replicate 0 (0 : Int))) ++ x2), x3.2.2)) fun x4 =>
   obind (sopen.call (x4.2.1, x4.2.2.2.2.1)) fun x5 =>
   sel (x4.2.2.1) (
    sel (x4.2.2.2.2.2.2.1) (
     sel (x5.2.1) (
      sel (decide (0 = 0 ∧ (0 + x4.2.2.2.1) ≤ (List.length x4.2.2.2.2.2.2.2.1))) (
      sel ((seq (strOfBytes x4.1) (strOfBytes (cut x4.2.2.2.2.2.2.2.1 0 x4.2.2.2.1)))) (
       sel (decide (0 = 0 ∧ (0 + x4.2.2.2.2.2.1) ≤ (List.length x4.2.2.2.2.2.2.2.2))) (
       sel ((seq (strOfBytes x4.2.2.2.2.1) (strOfBytes (cut x4.2.2.2.2.2.2.2.2 0 x4.2.2.2.2.2.1)))) (
        sel (decide (0 = 0 ∧ (0 + x5.1) ≤ (List.length x5.2.2))) (
        sel (decide (0 = 0 ∧ (0 + x4.2.2.2.1) ≤ (List.length x4.2.2.2.2.2.2.2.1))) (
        k (lnew.out (seq (strOfBytes (cut x5.2.2 0 x5.1)) (strOfBytes (cut x4.2.2.2.2.2.2.2.1 0 x4.2.2.2.1))))) none) none) (
        k (lnew.out false))) none) (
       k (lnew.out false))) none) (
      k (lnew.out false))) (
     k (lnew.out false))) (
    k (lnew.out false))) none) none) := by kernel_rfl


theorem lnew.L0.ok : ∀ d, lnew.L0.Pre d → ∃ n, lrun Try.prog lnew.G lnew.an 0 Try.f8 0 n (lnew.L0.st d) (fun e s => some (e, s)) = (lnew.L0.out (lnew.L0.add d (lnew.L0.F d))).eval := by
  refine lnew.L0.byRounds (fun (plain, key, head, wasL, s, keptL, m, ok, i, n19, n25, l) => m - i.toNat) ?_
  rintro ⟨plain, key, head, wasL, s, keptL, m, ok, i, n19, n25, l⟩ ⟨hm, h2, k, rfl⟩
  have hm : m ≤ l.length := hm
  have h2 : m ≤ 2000 := h2
  by_cases h : k < m
  · left
    have e1 : iadd .i64 (k : Int) 1 = ((k + 1 : Nat) : Int) := by rw [iadd_i64 (by omega) (by omega)]; omega
    have i1 : inb (k : Int) (m : Int) = true := inb_true (by omega) (by omega)
    have d1 : decide (k < l.length) = true := dec_true (by omega)
    refine ⟨(plain, key, head, wasL, s, keptL, m, ok, ((k + 1 : Nat) : Int), n19, n25, l.set k (iadd .u8 (nth (.int .u8) l k) 1)), ⟨by rw [List.length_set]; exact hm, h2, k + 1, rfl⟩, by show m - Int.toNat ((k + 1 : Nat) : Int) < m - Int.toNat (k : Int); omega, rfl, fun kn kx => ?_⟩
    rw [lnew.L0.step, ilt_true (by omega)]
    simp only [sel_true, e1, Int.toNat_natCast, Nat.zero_add, Nat.mul_one, Nat.add_zero, decide_true, i1, d1]
  · right
    intro R kn kx
    rw [lnew.L0.step, ilt_false (by omega)]
    rfl
theorem lnew.ok : ∀ d, lnew.Pre d → arun Try.prog lnew.G lnew.an 0 Try.f8 (lnew.st d).1 (lnew.st d).2 some = some (lnew.out (lnew.add d (lnew.F d))) := by
  rintro ⟨key, a⟩ ⟨hk, ha⟩
  have hk : key.length = 32 := hk
  have e1 : small9.add () (small9.F ()) = true := rfl
  rw [lnew.eq, small9.run trivial, e1]
  simp only [obind_some]
  by_cases h1 : 1000 < a.length
  · rw [igt_true (by omega)]; rfl
  rw [igt_false (by omega), sel_false]
  have ls := sld_length key a
  have p1 : sseal.Pre (key, a) := hk
  have p2 : sopen.Pre (key, sld key a) := ⟨hk, by show (sld _ _).length ≤ _; omega⟩
  have p3 : lnew.L0.Pre (a, key, true, a.length, sld key a, a.length + 8, a.length, true, 0, a, sld key a, a) := ⟨Nat.le_refl _, by omega, 0, rfl⟩
  have e3 : lnew.L0.add (a, key, true, a.length, sld key a, a.length + 8, a.length, true, 0, a, sld key a, a) (lnew.L0.F (a, key, true, a.length, sld key a, a.length + 8, a.length, true, 0, a, sld key a, a)) = (a, key, true, a.length, sld key a, a.length + 8, true, a, sld key a) := rfl
  have r0 : roomA a.length 1 = true := room_true (by omega) (by omega)
  have r1 : roomA (a.length + 8) 1 = true := room_true (by omega) (by omega)
  have c1 : cut a 0 a.length = a := cut_all _ _ (Nat.le_refl _)
  have c2 : cut (sld key a) 0 (a.length + 8) = sld key a := cut_all _ _ (by omega)
  simp only [Nat.zero_add, r0, sel_true, sseal.run p1, obind_some, sseal_add (show a.length ≤ 65536 by omega), sld_length, r1, sopen.run p2, sopen_sld ha (show a.length ≤ 65536 by omega), List.take_zero, List.nil_append, lnew.L0.run p3, e3, Nat.le_refl, and_self, decide_true, c1, c2, seq_self]
  rfl

theorem lnew.inj : ∀ d d', lnew.st d = lnew.st d' → d = d' := fun (key, plain) (key', plain') hEq => by
  have e0 : key = key' := d_inj (t := (.arr 32 (.int .u8))) (congrArg (fun s : List AVal × List Ent => (s.1.getD 0 .undef)) hEq)
  have e1 : plain = plain' := d_inj (t := (.slice (.int .u8))) (congrArg (fun s : List AVal × List Ent => (s.1.getD 1 .undef)) hEq)
  rw [e0, e1]
noncomputable def lnew.E : Entry := Entry.of [some (.arr 32 (.int .u8)), some (.slice (.int .u8))] lnew.st lnew.Pre (fun d => lnew.add d (lnew.F d)) lnew.out
noncomputable def lnew.call : lnew.D → Option lnew.X := fun d => lnew.E.run (lnew.st d).1 (lnew.st d).2
theorem lnew.run {d : lnew.D} (h : lnew.Pre d) : lnew.call d = some (lnew.add d (lnew.F d)) := Entry.of_run lnew.inj h
theorem lnew.does : Does Try.prog 8 lnew.E := Does.of (by kernel_rfl) (show Sound _ lnew.G from Sound.cons small9.does (Sound.cons sseal.does (Sound.cons sopen.does (Sound.nil _)))) (by kernel_rfl) (by kernel_rfl) (by kernel_rfl) (LOk.fn 1 (by kernel_rfl) (And.intro (LDo.of (by kernel_rfl) lnew.L0.ok) trivial)) lnew.ok

end Go.Ab
