/-
  Made by a program of mine (wip/gen), and by hand.
-/
import Derived.Test.YtglpcfdjdabdnaaRa2
namespace Go.Ab
open Go.Proofs
set_option maxRecDepth 100000
set_option linter.unusedVariables false
set_option linter.unusedSimpArgs false

/-! ### corsned/corsnedref04.block -/
abbrev rblock.L0.D := (List Int) × (List Int) × (List Int) × Nat × Int × (List Int)
def rblock.L0.st : rblock.L0.D → AS := fun (h_2, wv, kv, vL, i, n18) => ⟨([.d (.slice (.int .u32)) h_2] ++ undN 4 ([.d (.slice (.int .u32)) wv, .d (.slice (.int .u32)) kv, .sref (.new 18 0) 0 [] 0 0 vL, .d (.int .i64) i] ++ undN 146 [])), [], (nilN 18 ([[.obj 0 false (.vec 87 (.int .u32) n18)]] ++ nilN 136 []))⟩
abbrev rblock.L0.Y0 := Nat × (List Int)  -- vL, n18
abbrev rblock.L0.X0 := ((List Int)) × (Nat × (List Int))
def rblock.L0.ex0 : rblock.L0.X0 → Exit × AS := fun x => (.exit 0, ⟨([.d (.slice (.int .u32)) x.1] ++ undN 6 ([.sref (.new 18 0) 0 [] 0 0 x.2.1] ++ undN 147 [])), [], (nilN 18 ([[.obj 0 false (.vec 87 (.int .u32) x.2.2)]] ++ nilN 136 []))⟩)
abbrev rblock.L0.X := rblock.L0.X0
abbrev rblock.L0.Y := rblock.L0.Y0
def rblock.L0.out : rblock.L0.X → Out (Exit × AS) := fun x => .ok (rblock.L0.ex0 x)
def rblock.L0.add : rblock.L0.D → rblock.L0.Y → rblock.L0.X := fun (h_2, wv, kv, vL, i, n18) y => (h_2, y)
abbrev rblock.L1.D := (List Int) × Nat × Int × (List Int)
def rblock.L1.st : rblock.L1.D → AS := fun (h_3, vL_2, i_2, n18_2) => ⟨([.d (.slice (.int .u32)) h_3] ++ undN 6 ([.sref (.new 18 0) 0 [] 0 0 vL_2] ++ undN 6 ([.d (.int .i64) i_2] ++ undN 140 []))), [], (nilN 18 ([[.obj 0 false (.vec 87 (.int .u32) n18_2)]] ++ nilN 136 []))⟩
abbrev rblock.L1.Y0 := (List Int)  -- n18
abbrev rblock.L1.X0 := (Nat) × ((List Int))
def rblock.L1.ex0 : rblock.L1.X0 → Exit × AS := fun x => (.exit 2, ⟨(undN 7 ([.sref (.new 18 0) 0 [] 0 0 x.1] ++ undN 147 [])), [], (nilN 18 ([[.obj 0 false (.vec 87 (.int .u32) x.2)]] ++ nilN 136 []))⟩)
abbrev rblock.L1.X := rblock.L1.X0
abbrev rblock.L1.Y := rblock.L1.Y0
def rblock.L1.out : rblock.L1.X → Out (Exit × AS) := fun x => .ok (rblock.L1.ex0 x)
def rblock.L1.add : rblock.L1.D → rblock.L1.Y → rblock.L1.X := fun (h_3, vL_2, i_2, n18_2) y => (vL_2, y)
abbrev rblock.D := (List Int) × (List Int)
def rblock.st : rblock.D → List AVal × List Ent := fun (h, b) => ([.d (.slice (.int .u32)) h, .d (.slice (.int .u8)) b], [])
abbrev rblock.Y := (List Int)
abbrev rblock.X := (List Int)
def rblock.out : rblock.X → GRes := fun x => ⟨.d (.slice (.int .u32)) x, [], []⟩
def rblock.add : rblock.D → rblock.Y → rblock.X := fun (h, b) y => y


def rblock.L0.Pre : rblock.L0.D → Prop := fun (h, wv, kv, m, i, l) => ∃ (s : St) (ws : List W) (k : Nat), h = s.l ∧ wv = wl ws ∧ ws.length = 64 ∧ k ≤ 64 ∧ i = k ∧ kv = kint ∧ m = 8 ∧ l = (rounds ws s k).l
def rblock.L0.F : rblock.L0.D → rblock.L0.Y := fun (h, wv, kv, m, i, l) => (8, (rounds (unwl wv) (toSt h) 64).l)
def rblock.L1.Pre : rblock.L1.D → Prop := fun (h, m, i, l) => h.length = 8 ∧ l.length = 8 ∧ m = 8 ∧ ∃ k : Nat, k ≤ 8 ∧ i = k
def rblock.L1.F : rblock.L1.D → rblock.L1.Y := fun (h, m, i, l) => from_ (fun i x => iadd .u32 x (nth (.int .u32) h i)) i.toNat l
def rblock.Pre : rblock.D → Prop := fun (h, b) => (∃ s : St, h = s.l) ∧ 64 ≤ b.length
def rblock.F : rblock.D → rblock.Y := fun (h, b) => (mixS (toSt h) b).l

noncomputable def rblock.G : Gam := gcons 105 anyArgs rwords.E (gcons 106 anyArgs radds.E (gcons 107 anyArgs rturn.E (gnil)))
noncomputable def rblock.L0.E : LEntry := LEntry.of rblock.L0.st rblock.L0.Pre (fun d => rblock.L0.add d (rblock.L0.F d)) rblock.L0.out
noncomputable def rblock.L0.call : rblock.L0.D → Option rblock.L0.X := fun d => rblock.L0.E.run (rblock.L0.st d)
noncomputable def rblock.L1.E : LEntry := LEntry.of rblock.L1.st rblock.L1.Pre (fun d => rblock.L1.add d (rblock.L1.F d)) rblock.L1.out
noncomputable def rblock.L1.call : rblock.L1.D → Option rblock.L1.X := fun d => rblock.L1.E.run (rblock.L1.st d)
noncomputable def rblock.an : Ann := {
  objs := [18, 137],
  loops := fun r => bif Nat.beq r 5 then { keep := [0, 5, 6, 7, 8], sites := [18, 137], frz := [], data := [], owns := [⟨7, [], 18, 0⟩] } else bif Nat.beq r 14 then { keep := [0, 7, 14], sites := [18], frz := [], data := [], owns := [] } else { keep := [], sites := [], frz := [], data := [], owns := [] },
  outs := fun r b => bif Nat.beq r 5 then (bif b then { keep := [4], sites := [], frz := [], data := [], owns := [] } else { keep := [0, 7], sites := [18], frz := [], data := [], owns := [] }) else bif Nat.beq r 14 then (bif b then { keep := [4], sites := [], frz := [], data := [], owns := [] } else { keep := [7], sites := [18], frz := [], data := [], owns := [] }) else { keep := [], sites := [], frz := [], data := [], owns := [] },
  sums := fun r => bif Nat.beq r 5 then some rblock.L0.E else bif Nat.beq r 14 then some rblock.L1.E else none,
  owns := [],
  trim := [],
  res := [some (.slice (.int .u32))] }
theorem rblock.L0.inj : ∀ d d', rblock.L0.st d = rblock.L0.st d' → d = d' := fun (h_2, wv, kv, vL, i, n18) (h_2', wv', kv', vL', i', n18') hEq => by
  have e0 : h_2 = h_2' := d_inj (t := (.slice (.int .u32))) (congrArg (fun s : AS => (s.slot 0)) hEq)
  have e1 : wv = wv' := d_inj (t := (.slice (.int .u32))) (congrArg (fun s : AS => (s.slot 5)) hEq)
  have e2 : kv = kv' := d_inj (t := (.slice (.int .u32))) (congrArg (fun s : AS => (s.slot 6)) hEq)
  have e3 : vL = vL' := congrArg (fun s : AS => srefLen (s.slot 7)) hEq
  have e4 : i = i' := d_inj (t := (.int .i64)) (congrArg (fun s : AS => (s.slot 8)) hEq)
  have e5 : n18 = n18' := vec_inj (e := 87) (t := (.int .u32)) (congrArg (fun s : AS => (entC (s.ent (.new 18 0)))) hEq)
  rw [e0, e1, e2, e3, e4, e5]
theorem rblock.L0.run {d : rblock.L0.D} (h : rblock.L0.Pre d) : rblock.L0.call d = some (rblock.L0.add d (rblock.L0.F d)) := LEntry.of_run rblock.L0.inj h
theorem rblock.L0.byRounds (μ : rblock.L0.D → Nat) (h : ∀ d, rblock.L0.Pre d → (∃ d', rblock.L0.Pre d' ∧ μ d' < μ d ∧ rblock.L0.add d' (rblock.L0.F d') = rblock.L0.add d (rblock.L0.F d) ∧ ∀ {R : Type} (kn : AS → Option R) (kx : Exit → AS → Option R), lround Try.prog rblock.G rblock.an 0 Try.f103 0 (rblock.L0.st d) kn kx = kn (rblock.L0.st d')) ∨ (∀ {R : Type} (kn : AS → Option R) (kx : Exit → AS → Option R), lround Try.prog rblock.G rblock.an 0 Try.f103 0 (rblock.L0.st d) kn kx = kx (rblock.L0.ex0 (rblock.L0.add d (rblock.L0.F d))).1 (rblock.L0.ex0 (rblock.L0.add d (rblock.L0.F d))).2)) : ∀ d, rblock.L0.Pre d → ∃ n, lrun Try.prog rblock.G rblock.an 0 Try.f103 0 n (rblock.L0.st d) (fun e s => some (e, s)) = (rblock.L0.out (rblock.L0.add d (rblock.L0.F d))).eval := lrun_one (F := fun d => rblock.L0.add d (rblock.L0.F d)) μ h
theorem rblock.L0.step {R : Type} (h_2 : (List Int)) (wv : (List Int)) (kv : (List Int)) (vL : Nat) (i : Int) (n18 : (List Int)) (kn : AS → Option R) (kx : Exit → AS → Option R) : lround Try.prog rblock.G rblock.an 0 Try.f103 0 (rblock.L0.st (h_2, wv, kv, vL, i, n18)) kn kx =
  sel ((ilt i (64 : Int))) (
   sel (inb (4 : Int) ((vL : Nat) : Int)) (
   sel (decide (4 < (List.length n18))) (
   obind (rturn.call ((nth (.int .u32) n18 4), (6 : Int))) fun x1 =>
   sel (inb (4 : Int) ((vL : Nat) : Int)) (
   sel (decide (4 < (List.length n18))) (
   obind (rturn.call ((nth (.int .u32) n18 4), (11 : Int))) fun x2 =>
   sel (inb (4 : Int) ((vL : Nat) : Int)) (
   sel (decide (4 < (List.length n18))) (
   obind (rturn.call ((nth (.int .u32) n18 4), (25 : Int))) fun x3 =>
   sel (inb (4 : Int) ((vL : Nat) : Int)) (
   sel (decide (4 < (List.length n18))) (
   sel (inb (5 : Int) ((vL : Nat) : Int)) (
   sel (decide (5 < (List.length n18))) (
   sel (inb (4 : Int) ((vL : Nat) : Int)) (
   sel (decide (4 < (List.length n18))) (
   sel (inb (6 : Int) ((vL : Nat) : Int)) (
   sel (decide (6 < (List.length n18))) (
   sel (inb (7 : Int) ((vL : Nat) : Int)) (
   sel (decide (7 < (List.length n18))) (
   sel (inb i (((List.length kv) : Nat) : Int)) (
   sel (inb i (((List.length wv) : Nat) : Int)) (
   sel (inb (0 : Int) ((vL : Nat) : Int)) (
   sel (decide (0 < (List.length n18))) (
   obind (rturn.call ((nth (.int .u32) n18 0), (2 : Int))) fun x4 =>
   sel (inb (0 : Int) ((vL : Nat) : Int)) (
   sel (decide (0 < (List.length n18))) (
   obind (rturn.call ((nth (.int .u32) n18 0), (13 : Int))) fun x5 =>
   sel (inb (0 : Int) ((vL : Nat) : Int)) (
   sel (decide (0 < (List.length n18))) (
   obind (rturn.call ((nth (.int .u32) n18 0), (22 : Int))) fun x6 =>
   sel (inb (0 : Int) ((vL : Nat) : Int)) (
   sel (decide (0 < (List.length n18))) (
   sel (inb (1 : Int) ((vL : Nat) : Int)) (
   sel (decide (1 < (List.length n18))) (
   sel (inb (0 : Int) ((vL : Nat) : Int)) (
   sel (decide (0 < (List.length n18))) (
   sel (inb (2 : Int) ((vL : Nat) : Int)) (
   sel (decide (2 < (List.length n18))) (
   sel (inb (1 : Int) ((vL : Nat) : Int)) (
   sel (decide (1 < (List.length n18))) (
   sel (inb (2 : Int) ((vL : Nat) : Int)) (
   sel (decide (2 < (List.length n18))) (
   sel (inb (0 : Int) ((vL : Nat) : Int)) (
   sel (decide (0 < (List.length n18))) (
   sel (inb (1 : Int) ((vL : Nat) : Int)) (
   sel (decide (1 < (List.length n18))) (
   sel (inb (2 : Int) ((vL : Nat) : Int)) (
   sel (decide (2 < (List.length n18))) (
   sel (inb (3 : Int) ((vL : Nat) : Int)) (
   sel (decide (3 < (List.length n18))) (
   sel (inb (4 : Int) ((vL : Nat) : Int)) (
   sel (decide (4 < (List.length n18))) (
   sel (inb (5 : Int) ((vL : Nat) : Int)) (
   sel (decide (5 < (List.length n18))) (
   sel (inb (6 : Int) ((vL : Nat) : Int)) (
   sel (decide (6 < (List.length n18))) (
   kn (rblock.L0.st (h_2, wv, kv, 8, (iadd .i64 i (1 : Int)), [(iadd .u32 (iadd .u32 (iadd .u32 (iadd .u32 (iadd .u32 (iadd .u32 (nth (.int .u32) n18 7) (bitop .xor .u32 (bitop .xor .u32 x1 x2) x3)) (bitop .xor .u32 (bitop .and .u32 (nth (.int .u32) n18 4) (nth (.int .u32) n18 5)) (bitop .and .u32 (inot .u32 (nth (.int .u32) n18 4)) (nth (.int .u32) n18 6)))) (nth (.int .u32) kv (Int.toNat i))) (nth (.int .u32) wv (Int.toNat i))) (bitop .xor .u32 (bitop .xor .u32 x4 x5) x6)) (bitop .xor .u32 (bitop .xor .u32 (bitop .and .u32 (nth (.int .u32) n18 0) (nth (.int .u32) n18 1)) (bitop .and .u32 (nth (.int .u32) n18 0) (nth (.int .u32) n18 2))) (bitop .and .u32 (nth (.int .u32) n18 1) (nth (.int .u32) n18 2)))), (nth (.int .u32) n18 0), (nth (.int .u32) n18 1), (nth (.int .u32) n18 2), (iadd .u32 (nth (.int .u32) n18 3) (iadd .u32 (iadd .u32 (iadd .u32 (iadd .u32 (nth (.int .u32) n18 7) (bitop .xor .u32 (bitop .xor .u32 x1 x2) x3)) (bitop .xor .u32 (bitop .and .u32 (nth (.int .u32) n18 4) (nth (.int .u32) n18 5)) (bitop .and .u32 (inot .u32 (nth (.int .u32) n18 4)) (nth (.int .u32) n18 6)))) (nth (.int .u32) kv (Int.toNat i))) (nth (.int .u32) wv (Int.toNat i)))), (nth (.int .u32) n18 4), (nth (.int .u32) n18 5), (nth (.int .u32) n18 6)]))) none) none) none) none) none) none) none) none) none) none) none) none) none) none) none) none) none) none) none) none) none) none) none) none) none) none) none) none) none) none) none) none) none) none) none) none) none) none) none) none) none) none) none) none) none) none) none) none) none) none) (
   kx (rblock.L0.ex0 (h_2, (vL, n18))).1 (rblock.L0.ex0 (h_2, (vL, n18))).2) := by kernel_rfl
theorem rblock.L1.inj : ∀ d d', rblock.L1.st d = rblock.L1.st d' → d = d' := fun (h_3, vL_2, i_2, n18_2) (h_3', vL_2', i_2', n18_2') hEq => by
  have e0 : h_3 = h_3' := d_inj (t := (.slice (.int .u32))) (congrArg (fun s : AS => (s.slot 0)) hEq)
  have e1 : vL_2 = vL_2' := congrArg (fun s : AS => srefLen (s.slot 7)) hEq
  have e2 : i_2 = i_2' := d_inj (t := (.int .i64)) (congrArg (fun s : AS => (s.slot 14)) hEq)
  have e3 : n18_2 = n18_2' := vec_inj (e := 87) (t := (.int .u32)) (congrArg (fun s : AS => (entC (s.ent (.new 18 0)))) hEq)
  rw [e0, e1, e2, e3]
theorem rblock.L1.run {d : rblock.L1.D} (h : rblock.L1.Pre d) : rblock.L1.call d = some (rblock.L1.add d (rblock.L1.F d)) := LEntry.of_run rblock.L1.inj h
theorem rblock.L1.byRounds (μ : rblock.L1.D → Nat) (h : ∀ d, rblock.L1.Pre d → (∃ d', rblock.L1.Pre d' ∧ μ d' < μ d ∧ rblock.L1.add d' (rblock.L1.F d') = rblock.L1.add d (rblock.L1.F d) ∧ ∀ {R : Type} (kn : AS → Option R) (kx : Exit → AS → Option R), lround Try.prog rblock.G rblock.an 0 Try.f103 1 (rblock.L1.st d) kn kx = kn (rblock.L1.st d')) ∨ (∀ {R : Type} (kn : AS → Option R) (kx : Exit → AS → Option R), lround Try.prog rblock.G rblock.an 0 Try.f103 1 (rblock.L1.st d) kn kx = kx (rblock.L1.ex0 (rblock.L1.add d (rblock.L1.F d))).1 (rblock.L1.ex0 (rblock.L1.add d (rblock.L1.F d))).2)) : ∀ d, rblock.L1.Pre d → ∃ n, lrun Try.prog rblock.G rblock.an 0 Try.f103 1 n (rblock.L1.st d) (fun e s => some (e, s)) = (rblock.L1.out (rblock.L1.add d (rblock.L1.F d))).eval := lrun_one (F := fun d => rblock.L1.add d (rblock.L1.F d)) μ h
theorem rblock.L1.step {R : Type} (h_3 : (List Int)) (vL_2 : Nat) (i_2 : Int) (n18_2 : (List Int)) (kn : AS → Option R) (kx : Exit → AS → Option R) : lround Try.prog rblock.G rblock.an 0 Try.f103 1 (rblock.L1.st (h_3, vL_2, i_2, n18_2)) kn kx =
  sel ((ilt i_2 (8 : Int))) (
   sel (inb i_2 ((vL_2 : Nat) : Int)) (
   sel (decide ((0 + (Int.toNat i_2)) < (List.length n18_2))) (
   sel (decide ((((0 + (Int.toNat i_2)) * 1) + 0) = (0 + ((Int.toNat i_2) * 1)))) (
   sel (inb i_2 (((List.length h_3) : Nat) : Int)) (
   sel (inb i_2 ((vL_2 : Nat) : Int)) (
   sel (decide ((0 + (Int.toNat i_2)) < (List.length n18_2))) (
   sel (decide ((((0 + (Int.toNat i_2)) * 1) + 0) = (0 + ((Int.toNat i_2) * 1)))) (
   sel (decide ((0 + (Int.toNat i_2)) < (List.length n18_2))) (
   kn (rblock.L1.st (h_3, vL_2, (iadd .i64 i_2 (1 : Int)), (List.set n18_2 (0 + (Int.toNat i_2)) (iadd .u32 (nth (.int .u32) n18_2 (0 + (Int.toNat i_2))) (nth (.int .u32) h_3 (Int.toNat i_2))))))) none) none) none) none) none) none) none) none) (
   kx (rblock.L1.ex0 (vL_2, n18_2)).1 (rblock.L1.ex0 (vL_2, n18_2)).2) := by kernel_rfl
theorem rblock.eq {R : Type} (h : (List Int)) (b : (List Int)) (k : GRes → Option R) : arun Try.prog rblock.G rblock.an 0 Try.f103 (rblock.st (h, b)).1 (rblock.st (h, b)).2 k =
  obind (rwords.call b) fun x1 =>
  obind (radds.call ()) fun x2 =>
  sel (roomA (0 + (List.length h)) 4) (
  obind (rblock.L0.call (h, x1, x2, (0 + (List.length h)), (0 : Int), ((List.take 0 (List.replicate 0 (0 : Int))) ++ h))) fun x15 =>
  obind (rblock.L1.call (x15.1, x15.2.1, (0 : Int), x15.2.2)) fun x16 =>
  sel (decide (0 = 0 ∧ (0 + x16.1) ≤ (List.length x16.2))) (
  k (rblock.out (cut x16.2 0 x16.1))) none) none := by kernel_rfl


theorem inot_u32 (w : W) : inot .u32 (vw w) = vw (~~~w) := by
  have e : (if IntKind.u32.signed then -1 else IntKind.u32.max : Int) = vw (BitVec.allOnes 32) := rfl
  unfold inot
  rw [e, bitop_u32]
  simp only [BitVec.allOnes_xor]
theorem ch_eq (e f g : W) : (e &&& f) ^^^ (~~~e &&& g) = g ^^^ (e &&& (f ^^^ g)) := by
  ext i hi
  simp only [BitVec.getElem_xor, BitVec.getElem_and, BitVec.getElem_not]
  cases e[i] <;> cases f[i] <;> cases g[i] <;> rfl
theorem maj_eq (a b c : W) : (a &&& b) ^^^ (a &&& c) ^^^ (b &&& c) = (a &&& b) ||| (c &&& (a ||| b)) := by
  ext i hi
  simp only [BitVec.getElem_xor, BitVec.getElem_and, BitVec.getElem_or]
  cases a[i] <;> cases b[i] <;> cases c[i] <;> rfl
theorem rblock.L0.ok : ∀ d, rblock.L0.Pre d → ∃ n, lrun Try.prog rblock.G rblock.an 0 Try.f103 0 n (rblock.L0.st d) (fun e s => some (e, s)) = (rblock.L0.out (rblock.L0.add d (rblock.L0.F d))).eval := by
  refine rblock.L0.byRounds (fun (h, wv, kv, m, i, l) => 64 - i.toNat) ?_
  rintro ⟨h, wv, kv, m, i, l⟩ ⟨s, ws, k, rfl, rfl, hw, hk, rfl, rfl, rfl, rfl⟩
  by_cases hlt : k < 64
  · left
    refine ⟨(s.l, wl ws, kint, 8, ((k + 1 : Nat) : Int), (rounds ws s (k + 1)).l), ⟨s, ws, k + 1, rfl, rfl, hw, by omega, rfl, rfl, rfl, rfl⟩, by simp only; omega, rfl, fun kn kx => ?_⟩
    rw [rblock.L0.step]
    generalize hv : rounds ws s k = v
    have t1 : ∀ w : W, rturn.call (vw w, 6) = some (vw (rotr w 6)) := fun w => rturn.at w (by omega)
    have t2 : ∀ w : W, rturn.call (vw w, 11) = some (vw (rotr w 11)) := fun w => rturn.at w (by omega)
    have t3 : ∀ w : W, rturn.call (vw w, 25) = some (vw (rotr w 25)) := fun w => rturn.at w (by omega)
    have t4 : ∀ w : W, rturn.call (vw w, 2) = some (vw (rotr w 2)) := fun w => rturn.at w (by omega)
    have t5 : ∀ w : W, rturn.call (vw w, 13) = some (vw (rotr w 13)) := fun w => rturn.at w (by omega)
    have t6 : ∀ w : W, rturn.call (vw w, 22) = some (vw (rotr w 22)) := fun w => rturn.at w (by omega)
    rw [n0, n1, n2, n3, n4, n5, n6, n7, t1, obind_some, t2, obind_some, t3, obind_some, t4, obind_some, t5, obind_some, t6, obind_some]
    simp (disch := omega) only [↓N.lt, ↓N.le, ↓N.gt, ↓N.ge, ↓N.eq, ↓N.ne, ↓N.ib, ↓N.ic, ↓N.nn, ↓N.nz, ↓N.dc, ↓N.rm, ↓N.an, ↓N.or, ↓N.no, ↓if_pos, ↓if_neg, ↓sel_true, ↓sel_false, ↓obind_some, if_pos, if_neg, obind_some, N.aNN, N.aNL, N.aLN, N.sNN, N.sNL, N.sLN, N.mNN, N.mNL, N.mLN, N.qNN, N.qNL, N.rNN, N.rNL, N.cN, N.cL, N.tL, Int.toNat_natCast, if_true, if_false, and_self, true_and, and_true, St.l_length, kint_length, wl_length, hw, kint_get k hlt, wl_get ws k (by omega), bitop_u32, iadd_u32, inot_u32, ch_eq, maj_eq]
    show kn _ = kn (rblock.L0.st (s.l, wl ws, kint, 8, ((k + 1 : Nat) : Int), (rnd (rounds ws s k) (kw k) (ws.getD k 0)).l))
    rw [hv]
    rfl
  · right
    obtain rfl : k = 64 := by omega
    intro R kn kx
    rw [rblock.L0.step]
    simp (disch := omega) only [↓N.lt, ↓N.le, ↓N.gt, ↓N.ge, ↓N.eq, ↓N.ne, ↓N.ib, ↓N.ic, ↓N.nn, ↓N.nz, ↓N.dc, ↓N.rm, ↓N.an, ↓N.or, ↓N.no, ↓if_pos, ↓if_neg, ↓sel_true, ↓sel_false, ↓obind_some, if_pos, if_neg, obind_some, N.aNN, N.aNL, N.aLN, N.sNN, N.sNL, N.sLN, N.mNN, N.mNL, N.mLN, N.qNN, N.qNL, N.rNN, N.rNL, N.cN, N.cL, N.tL, Int.toNat_natCast, if_true, if_false, and_self, true_and, and_true, rblock.L0.add, rblock.L0.F, unwl_wl, toSt_l]
theorem rblock.L1.ok : ∀ d, rblock.L1.Pre d → ∃ n, lrun Try.prog rblock.G rblock.an 0 Try.f103 1 n (rblock.L1.st d) (fun e s => some (e, s)) = (rblock.L1.out (rblock.L1.add d (rblock.L1.F d))).eval := by
  refine rblock.L1.byRounds (fun (h, m, i, l) => 8 - i.toNat) ?_
  rintro ⟨h, m, i, l⟩ ⟨hh, hl, rfl, k, hk, rfl⟩
  have hl : l.length = 8 := hl
  have hh : h.length = 8 := hh
  by_cases hlt : k < 8
  · left
    have hn : nth (.int .u32) l k = l[k] := nth_lt (t := .int .u32) (by omega)
    refine ⟨(h, 8, ((k + 1 : Nat) : Int), l.set k (iadd .u32 l[k] (nth (.int .u32) h k))), ⟨hh, by simpa using hl, rfl, k + 1, by omega, rfl⟩, by simp only; omega, ?_, fun kn kx => ?_⟩
    · simp only [rblock.L1.add, rblock.L1.F, Int.toNat_natCast]
      rw [from_step (fun i x => iadd .u32 x (nth (.int .u32) h i)) l k (by omega)]
    · rw [rblock.L1.step]
      simp (disch := omega) only [↓N.lt, ↓N.le, ↓N.gt, ↓N.ge, ↓N.eq, ↓N.ne, ↓N.ib, ↓N.ic, ↓N.nn, ↓N.nz, ↓N.dc, ↓N.rm, ↓N.an, ↓N.or, ↓N.no, ↓if_pos, ↓if_neg, ↓sel_true, ↓sel_false, ↓obind_some, if_pos, if_neg, obind_some, N.aNN, N.aNL, N.aLN, N.sNN, N.sNL, N.sLN, N.mNN, N.mNL, N.mLN, N.qNN, N.qNL, N.rNN, N.rNL, N.cN, N.cL, N.tL, Int.toNat_natCast, if_true, if_false, and_self, true_and, and_true, hl, hh, Nat.zero_add, Nat.mul_one, Nat.add_zero, hn]
  · right
    obtain rfl : k = 8 := by omega
    intro R kn kx
    rw [rblock.L1.step]
    simp (disch := omega) only [↓N.lt, ↓N.le, ↓N.gt, ↓N.ge, ↓N.eq, ↓N.ne, ↓N.ib, ↓N.ic, ↓N.nn, ↓N.nz, ↓N.dc, ↓N.rm, ↓N.an, ↓N.or, ↓N.no, ↓if_pos, ↓if_neg, ↓sel_true, ↓sel_false, ↓obind_some, if_pos, if_neg, obind_some, N.aNN, N.aNL, N.aLN, N.sNN, N.sNL, N.sLN, N.mNN, N.mNL, N.mLN, N.qNN, N.qNL, N.rNN, N.rNL, N.cN, N.cL, N.tL, Int.toNat_natCast, if_true, if_false, and_self, true_and, and_true, rblock.L1.add, rblock.L1.F]
    rw [from_end _ _ _ (by omega)]
theorem mixS_l (s : St) (b : List Int) : from_ (fun i x => iadd .u32 x (nth (.int .u32) s.l i)) 0 (rounds (sched b) s 64).l = (mixS s b).l := by
  unfold mixS
  generalize rounds (sched b) s 64 = v
  obtain ⟨a1, b1, c1, d1, f1, g1, h1, i1⟩ := v
  simp only [St.l, from_, List.mapIdx_cons, List.mapIdx_nil, Nat.not_lt_zero, if_false, Nat.zero_add, Nat.reduceAdd]
  simp only [nth, List.getD_cons_zero, List.getD_cons_succ, iadd_u32]
theorem rblock.ok : ∀ d, rblock.Pre d → arun Try.prog rblock.G rblock.an 0 Try.f103 (rblock.st d).1 (rblock.st d).2 some = some (rblock.out (rblock.add d (rblock.F d))) := by
  rintro ⟨h, b⟩ ⟨⟨s, rfl⟩, hb⟩
  have p0 : rwords.Pre b := hb
  have hsl : (sched b).length = 64 := by unfold sched; rw [wsN_length, words_length]
  have p1 : rblock.L0.Pre (s.l, wl (sched b), kint, 8, 0, s.l) := ⟨s, sched b, 0, rfl, rfl, hsl, by omega, rfl, rfl, rfl, rfl⟩
  have p2 : rblock.L1.Pre (s.l, 8, 0, (rounds (sched b) s 64).l) := ⟨rfl, rfl, rfl, 0, by omega, rfl⟩
  have e0 : 0 + s.l.length = 8 := rfl
  have e1 : List.take 0 (List.replicate 0 (0 : Int)) ++ s.l = s.l := rfl
  rw [rblock.eq]
  simp (disch := omega) only [↓N.lt, ↓N.le, ↓N.gt, ↓N.ge, ↓N.eq, ↓N.ne, ↓N.ib, ↓N.ic, ↓N.nn, ↓N.nz, ↓N.dc, ↓N.rm, ↓N.an, ↓N.or, ↓N.no, ↓if_pos, ↓if_neg, ↓sel_true, ↓sel_false, ↓obind_some, if_pos, if_neg, obind_some, N.aNN, N.aNL, N.aLN, N.sNN, N.sNL, N.sLN, N.mNN, N.mNL, N.mLN, N.qNN, N.qNL, N.rNN, N.rNL, N.cN, N.cL, N.tL, Int.toNat_natCast, if_true, if_false, and_self, true_and, and_true, rwords.run p0, rwords.add, rwords.F, radds.run (d := ()) trivial, radds.add, radds.F, e0, e1, rblock.L0.run p1, rblock.L0.add, rblock.L0.F, unwl_wl, toSt_l, rblock.L1.run p2, rblock.L1.add, rblock.L1.F, Int.toNat_zero, mixS_l]
  have e2 : (mixS s b).l.length = 8 := rfl
  have e3 : cut (mixS s b).l 0 8 = (mixS s b).l := rfl
  simp only [e2, Nat.zero_add, Nat.le_refl, if_true, e3, rblock.add, rblock.F, toSt_l]

theorem rblock.inj : ∀ d d', rblock.st d = rblock.st d' → d = d' := fun (h, b) (h', b') hEq => by
  have e0 : h = h' := d_inj (t := (.slice (.int .u32))) (congrArg (fun s : List AVal × List Ent => (s.1.getD 0 .undef)) hEq)
  have e1 : b = b' := d_inj (t := (.slice (.int .u8))) (congrArg (fun s : List AVal × List Ent => (s.1.getD 1 .undef)) hEq)
  rw [e0, e1]
noncomputable def rblock.E : Entry := Entry.of [some (.slice (.int .u32)), some (.slice (.int .u8))] rblock.st rblock.Pre (fun d => rblock.add d (rblock.F d)) rblock.out
noncomputable def rblock.call : rblock.D → Option rblock.X := fun d => rblock.E.run (rblock.st d).1 (rblock.st d).2
theorem rblock.run {d : rblock.D} (h : rblock.Pre d) : rblock.call d = some (rblock.add d (rblock.F d)) := Entry.of_run rblock.inj h
theorem rblock.does : Does Try.prog 103 rblock.E := Does.of (by kernel_rfl) (show Sound _ rblock.G from Sound.cons rwords.does (Sound.cons radds.does (Sound.cons rturn.does (Sound.nil _)))) (by kernel_rfl) (by kernel_rfl) (by kernel_rfl) (LOk.fn 2 (by kernel_rfl) (And.intro (LDo.of (by kernel_rfl) rblock.L0.ok) (And.intro (LDo.of (by kernel_rfl) rblock.L1.ok) trivial))) rblock.ok

end Go.Ab
