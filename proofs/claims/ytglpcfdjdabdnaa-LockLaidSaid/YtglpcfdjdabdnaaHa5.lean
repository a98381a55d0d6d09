/-
  Made by a program of mine (wip/gen), and by hand.
-/
import Derived.Test.YtglpcfdjdabdnaaHa4
namespace Go.Ab
open Go.Proofs
set_option maxRecDepth 100000
set_option linter.unusedVariables false
set_option linter.unusedSimpArgs false

/-! ### corsned/hash.Sum -/
abbrev hsum.L0.D := (List Int) × Nat × (List Int) × (List Int)
def hsum.L0.st : hsum.L0.D → AS := fun (b_2, endL, n2, n14) => ⟨([.d (.slice (.int .u8)) b_2, .undef, .ptr (.new 2 0) 0 [] 0, .sref (.new 14 0) 0 [] 0 0 endL] ++ undN 61 []), [], ([[], [], [.obj 0 false (.d (.arr 32 (.int .u8)) n2)]] ++ nilN 11 ([[.obj 0 false (.vec 5 (.int .u8) n14)]] ++ nilN 50 []))⟩
abbrev hsum.L0.Y0 := Nat × (List Int)  -- endL, n14
abbrev hsum.L0.X0 := ((List Int) × (List Int)) × (Nat × (List Int))
def hsum.L0.ex0 : hsum.L0.X0 → Exit × AS := fun x => (.exit 0, ⟨([.d (.slice (.int .u8)) x.1.1, .undef, .ptr (.new 2 0) 0 [] 0, .sref (.new 14 0) 0 [] 0 0 x.2.1] ++ undN 61 []), [], ([[], [], [.obj 0 false (.d (.arr 32 (.int .u8)) x.1.2)]] ++ nilN 11 ([[.obj 0 false (.vec 5 (.int .u8) x.2.2)]] ++ nilN 50 []))⟩)
abbrev hsum.L0.X := hsum.L0.X0
abbrev hsum.L0.Y := hsum.L0.Y0
def hsum.L0.out : hsum.L0.X → Out (Exit × AS) := fun x => .ok (hsum.L0.ex0 x)
def hsum.L0.add : hsum.L0.D → hsum.L0.Y → hsum.L0.X := fun (b_2, endL, n2, n14) y => ((b_2, n2), y)
abbrev hsum.L1.D := (List Int) × Nat × (List Int) × (List Int) × (List Int)
def hsum.L1.st : hsum.L1.D → AS := fun (b_3, endL_2, n2_2, n4, n14_2) => ⟨([.d (.slice (.int .u8)) b_3, .undef, .ptr (.new 2 0) 0 [] 0, .sref (.new 14 0) 8 [] 0 0 endL_2, .ptr (.new 4 0) 0 [] 0] ++ undN 60 []), [], ([[], [], [.obj 0 false (.d (.arr 32 (.int .u8)) n2_2)], [], [.obj 0 false (.d (.arr 8 (.int .u32)) n4)]] ++ nilN 9 ([[.obj 8 false (.vec 5 (.int .u8) n14_2)]] ++ nilN 50 []))⟩
abbrev hsum.L1.Y0 := (List Int)  -- n4
abbrev hsum.L1.X0 := (Nat × (List Int) × (List Int)) × ((List Int))
def hsum.L1.ex0 : hsum.L1.X0 → Exit × AS := fun x => (.exit 2, ⟨([.undef, .undef, .ptr (.new 2 0) 0 [] 0, .sref (.new 14 0) 8 [] 0 0 x.1.1, .ptr (.new 4 0) 0 [] 0] ++ undN 60 []), [], ([[], [], [.obj 0 false (.d (.arr 32 (.int .u8)) x.1.2.1)], [], [.obj 0 false (.d (.arr 8 (.int .u32)) x.2)]] ++ nilN 9 ([[.obj 8 false (.vec 5 (.int .u8) x.1.2.2)]] ++ nilN 50 []))⟩)
abbrev hsum.L1.X := hsum.L1.X0
abbrev hsum.L1.Y := hsum.L1.Y0
def hsum.L1.out : hsum.L1.X → Out (Exit × AS) := fun x => .ok (hsum.L1.ex0 x)
def hsum.L1.add : hsum.L1.D → hsum.L1.Y → hsum.L1.X := fun (b_3, endL_2, n2_2, n4, n14_2) y => ((endL_2, n2_2, n14_2), y)
abbrev hsum.L2.D := (List Int) × (List Int) × (List Int)
def hsum.L2.st : hsum.L2.D → AS := fun (endv, n2_3, n4_2) => ⟨([.undef, .undef, .ptr (.new 2 0) 0 [] 0, .d (.slice (.int .u8)) endv, .ptr (.new 4 0) 0 [] 0] ++ undN 60 []), [], ([[], [], [.obj 0 false (.d (.arr 32 (.int .u8)) n2_3)], [], [.obj 0 false (.d (.arr 8 (.int .u32)) n4_2)]] ++ nilN 60 [])⟩
abbrev hsum.L2.Y0 := (List Int)  -- n4
abbrev hsum.L2.X0 := ((List Int)) × ((List Int))
def hsum.L2.ex0 : hsum.L2.X0 → Exit × AS := fun x => (.exit 4, ⟨([.undef, .undef, .ptr (.new 2 0) 0 [] 0, .undef, .ptr (.new 4 0) 0 [] 0] ++ undN 60 []), [], ([[], [], [.obj 0 false (.d (.arr 32 (.int .u8)) x.1)], [], [.obj 0 false (.d (.arr 8 (.int .u32)) x.2)]] ++ nilN 60 [])⟩)
abbrev hsum.L2.X := hsum.L2.X0
abbrev hsum.L2.Y := hsum.L2.Y0
def hsum.L2.out : hsum.L2.X → Out (Exit × AS) := fun x => .ok (hsum.L2.ex0 x)
def hsum.L2.add : hsum.L2.D → hsum.L2.Y → hsum.L2.X := fun (endv, n2_3, n4_2) y => (n2_3, y)
abbrev hsum.L3.D := Int × (List Int) × (List Int)
def hsum.L3.st : hsum.L3.D → AS := fun (t48, n2_4, n4_3) => ⟨([.undef, .undef, .ptr (.new 2 0) 0 [] 0, .undef, .ptr (.new 4 0) 0 [] 0] ++ undN 43 ([.d (.int .i64) t48] ++ undN 16 [])), [], ([[], [], [.obj 0 false (.d (.arr 32 (.int .u8)) n2_4)], [], [.obj 0 false (.d (.arr 8 (.int .u32)) n4_3)]] ++ nilN 60 [])⟩
abbrev hsum.L3.Y0 := (List Int)  -- n2
abbrev hsum.L3.X0 := (List Int)
def hsum.L3.ex0 : hsum.L3.X0 → Exit × AS := fun x => (.exit 6, ⟨([.undef, .undef, .ptr (.new 2 0) 0 [] 0] ++ undN 62 []), [], ([[], [], [.obj 0 false (.d (.arr 32 (.int .u8)) x)]] ++ nilN 62 [])⟩)
abbrev hsum.L3.X := hsum.L3.X0
abbrev hsum.L3.Y := hsum.L3.Y0
def hsum.L3.out : hsum.L3.X → Out (Exit × AS) := fun x => .ok (hsum.L3.ex0 x)
def hsum.L3.add : hsum.L3.D → hsum.L3.Y → hsum.L3.X := fun (t48, n2_4, n4_3) y => y
abbrev hsum.D := (List Int)
def hsum.st : hsum.D → List AVal × List Ent := fun b => ([.d (.slice (.int .u8)) b], [])
abbrev hsum.Y := (List Int)
abbrev hsum.X := (List Int)
def hsum.out : hsum.X → GRes := fun x => ⟨.d (.arr 32 (.int .u8)) x, [], []⟩
def hsum.add : hsum.D → hsum.Y → hsum.X := fun b y => y


def zc (n : Nat) : Nat := (120 - n % 64) % 64
def hsum.L0.Pre : hsum.L0.D → Prop := fun (b, m, n2, l) => m = l.length ∧ l.length + zc l.length ≤ 140737488355328
def hsum.L0.F : hsum.L0.D → hsum.L0.Y := fun (b, m, n2, l) => (l.length + zc l.length, l ++ List.replicate (zc l.length) 0)
def hsum.L1.Pre : hsum.L1.D → Prop := fun (b, m, n2, h, l) => ∃ s : St, h = s.l
def hsum.L1.F : hsum.L1.D → hsum.L1.Y := fun (b, m, n2, h, l) => (blocks (toSt h) b).l
def hsum.L2.Pre : hsum.L2.D → Prop := fun (b, n2, h) => b.length % 64 = 0 ∧ ∃ s : St, h = s.l
def hsum.L2.F : hsum.L2.D → hsum.L2.Y := fun (b, n2, h) => (blocks (toSt h) b).l
def bytAt (h : List Int) (i : Nat) (_ : Int) : Int := icv .u8 (ishr .u32 (nth (.int .u32) h (i / 4)) ((24 - 8 * (i % 4) : Nat) : Int))
def hsum.L3.Pre : hsum.L3.D → Prop := fun (t, n2, h) => n2.length = 32 ∧ h.length = 8 ∧ ∃ k : Nat, k ≤ 32 ∧ t = k
def hsum.L3.F : hsum.L3.D → hsum.L3.Y := fun (t, n2, h) => from_ (bytAt h) t.toNat n2
def hsum.Pre : hsum.D → Prop := fun b => b.length ≤ 140737488350000
def hsum.F : hsum.D → hsum.Y := fun b => sha b

noncomputable def hsum.G : Gam := gcons 45 anyArgs clone8.E (gcons 49 srefFirst longs.E (gcons 54 anyArgs first.E (gcons 55 anyArgs mix.E (gnil))))
noncomputable def hsum.L0.E : LEntry := LEntry.of hsum.L0.st hsum.L0.Pre (fun d => hsum.L0.add d (hsum.L0.F d)) hsum.L0.out
noncomputable def hsum.L0.call : hsum.L0.D → Option hsum.L0.X := fun d => hsum.L0.E.run (hsum.L0.st d)
noncomputable def hsum.L1.E : LEntry := LEntry.of hsum.L1.st hsum.L1.Pre (fun d => hsum.L1.add d (hsum.L1.F d)) hsum.L1.out
noncomputable def hsum.L1.call : hsum.L1.D → Option hsum.L1.X := fun d => hsum.L1.E.run (hsum.L1.st d)
noncomputable def hsum.L2.E : LEntry := LEntry.of hsum.L2.st hsum.L2.Pre (fun d => hsum.L2.add d (hsum.L2.F d)) hsum.L2.out
noncomputable def hsum.L2.call : hsum.L2.D → Option hsum.L2.X := fun d => hsum.L2.E.run (hsum.L2.st d)
noncomputable def hsum.L3.E : LEntry := LEntry.of hsum.L3.st hsum.L3.Pre (fun d => hsum.L3.add d (hsum.L3.F d)) hsum.L3.out
noncomputable def hsum.L3.call : hsum.L3.D → Option hsum.L3.X := fun d => hsum.L3.E.run (hsum.L3.st d)
noncomputable def hsum.an : Ann := {
  objs := [],
  loops := fun r => bif Nat.beq r 2 then { keep := [0, 2, 3], sites := [2, 14], frz := [], data := [], owns := [⟨3, [], 14, 52⟩] } else bif Nat.beq r 6 then { keep := [0, 2, 3, 4], sites := [2, 4, 14], frz := [], data := [], owns := [] } else bif Nat.beq r 9 then { keep := [2, 3, 4], sites := [2, 4], frz := [], data := [(3, (.slice (.int .u8)))], owns := [] } else bif Nat.beq r 13 then { keep := [2, 4, 48], sites := [2, 4], frz := [], data := [], owns := [] } else { keep := [], sites := [], frz := [], data := [], owns := [] },
  outs := fun r b => bif Nat.beq r 2 then (bif b then { keep := [2], sites := [], frz := [], data := [], owns := [] } else { keep := [0, 2, 3], sites := [2, 14], frz := [], data := [], owns := [] }) else bif Nat.beq r 6 then (bif b then { keep := [2], sites := [], frz := [], data := [], owns := [] } else { keep := [2, 3, 4], sites := [2, 4, 14], frz := [], data := [], owns := [] }) else bif Nat.beq r 9 then (bif b then { keep := [2], sites := [], frz := [], data := [], owns := [] } else { keep := [2, 4], sites := [2, 4], frz := [], data := [], owns := [] }) else bif Nat.beq r 13 then (bif b then { keep := [2], sites := [], frz := [], data := [], owns := [] } else { keep := [2], sites := [2], frz := [], data := [], owns := [] }) else { keep := [], sites := [], frz := [], data := [], owns := [] },
  sums := fun r => bif Nat.beq r 2 then some hsum.L0.E else bif Nat.beq r 6 then some hsum.L1.E else bif Nat.beq r 9 then some hsum.L2.E else bif Nat.beq r 13 then some hsum.L3.E else none,
  owns := [],
  trim := [],
  res := [] }
theorem hsum.L0.inj : ∀ d d', hsum.L0.st d = hsum.L0.st d' → d = d' := fun (b_2, endL, n2, n14) (b_2', endL', n2', n14') hEq => by
  have e0 : b_2 = b_2' := d_inj (t := (.slice (.int .u8))) (congrArg (fun s : AS => (s.slot 0)) hEq)
  have e1 : endL = endL' := congrArg (fun s : AS => srefLen (s.slot 3)) hEq
  have e2 : n2 = n2' := d_inj (t := (.arr 32 (.int .u8))) (congrArg (fun s : AS => (entC (s.ent (.new 2 0)))) hEq)
  have e3 : n14 = n14' := vec_inj (e := 5) (t := (.int .u8)) (congrArg (fun s : AS => (entC (s.ent (.new 14 0)))) hEq)
  rw [e0, e1, e2, e3]
theorem hsum.L0.run {d : hsum.L0.D} (h : hsum.L0.Pre d) : hsum.L0.call d = some (hsum.L0.add d (hsum.L0.F d)) := LEntry.of_run hsum.L0.inj h
theorem hsum.L0.byRounds (μ : hsum.L0.D → Nat) (h : ∀ d, hsum.L0.Pre d → (∃ d', hsum.L0.Pre d' ∧ μ d' < μ d ∧ hsum.L0.add d' (hsum.L0.F d') = hsum.L0.add d (hsum.L0.F d) ∧ ∀ {R : Type} (kn : AS → Option R) (kx : Exit → AS → Option R), lround Try.prog hsum.G hsum.an 0 Try.f31 0 (hsum.L0.st d) kn kx = kn (hsum.L0.st d')) ∨ (∀ {R : Type} (kn : AS → Option R) (kx : Exit → AS → Option R), lround Try.prog hsum.G hsum.an 0 Try.f31 0 (hsum.L0.st d) kn kx = kx (hsum.L0.ex0 (hsum.L0.add d (hsum.L0.F d))).1 (hsum.L0.ex0 (hsum.L0.add d (hsum.L0.F d))).2)) : ∀ d, hsum.L0.Pre d → ∃ n, lrun Try.prog hsum.G hsum.an 0 Try.f31 0 n (hsum.L0.st d) (fun e s => some (e, s)) = (hsum.L0.out (hsum.L0.add d (hsum.L0.F d))).eval := lrun_one (F := fun d => hsum.L0.add d (hsum.L0.F d)) μ h
theorem hsum.L0.step {R : Type} (b_2 : (List Int)) (endL : Nat) (n2 : (List Int)) (n14 : (List Int)) (kn : AS → Option R) (kx : Exit → AS → Option R) : lround Try.prog hsum.G hsum.an 0 Try.f31 0 (hsum.L0.st (b_2, endL, n2, n14)) kn kx =
  sel ((ine (irem ((endL : Nat) : Int) (64 : Int)) (56 : Int))) (
   sel (decide (endL ≤ (List.length n14))) (
   sel (roomA (endL + 1) 1) (
   kn (hsum.L0.st (b_2, (endL + 1), n2, ((List.take endL n14) ++ [(0 : Int)])))) none) none) (
   kx (hsum.L0.ex0 ((b_2, n2), (endL, n14))).1 (hsum.L0.ex0 ((b_2, n2), (endL, n14))).2) := by kernel_rfl
theorem hsum.L1.inj : ∀ d d', hsum.L1.st d = hsum.L1.st d' → d = d' := fun (b_3, endL_2, n2_2, n4, n14_2) (b_3', endL_2', n2_2', n4', n14_2') hEq => by
  have e0 : b_3 = b_3' := d_inj (t := (.slice (.int .u8))) (congrArg (fun s : AS => (s.slot 0)) hEq)
  have e1 : endL_2 = endL_2' := congrArg (fun s : AS => srefLen (s.slot 3)) hEq
  have e2 : n2_2 = n2_2' := d_inj (t := (.arr 32 (.int .u8))) (congrArg (fun s : AS => (entC (s.ent (.new 2 0)))) hEq)
  have e3 : n4 = n4' := d_inj (t := (.arr 8 (.int .u32))) (congrArg (fun s : AS => (entC (s.ent (.new 4 0)))) hEq)
  have e4 : n14_2 = n14_2' := vec_inj (e := 5) (t := (.int .u8)) (congrArg (fun s : AS => (entC (s.ent (.new 14 0)))) hEq)
  rw [e0, e1, e2, e3, e4]
theorem hsum.L1.run {d : hsum.L1.D} (h : hsum.L1.Pre d) : hsum.L1.call d = some (hsum.L1.add d (hsum.L1.F d)) := LEntry.of_run hsum.L1.inj h
theorem hsum.L1.byRounds (μ : hsum.L1.D → Nat) (h : ∀ d, hsum.L1.Pre d → (∃ d', hsum.L1.Pre d' ∧ μ d' < μ d ∧ hsum.L1.add d' (hsum.L1.F d') = hsum.L1.add d (hsum.L1.F d) ∧ ∀ {R : Type} (kn : AS → Option R) (kx : Exit → AS → Option R), lround Try.prog hsum.G hsum.an 0 Try.f31 1 (hsum.L1.st d) kn kx = kn (hsum.L1.st d')) ∨ (∀ {R : Type} (kn : AS → Option R) (kx : Exit → AS → Option R), lround Try.prog hsum.G hsum.an 0 Try.f31 1 (hsum.L1.st d) kn kx = kx (hsum.L1.ex0 (hsum.L1.add d (hsum.L1.F d))).1 (hsum.L1.ex0 (hsum.L1.add d (hsum.L1.F d))).2)) : ∀ d, hsum.L1.Pre d → ∃ n, lrun Try.prog hsum.G hsum.an 0 Try.f31 1 n (hsum.L1.st d) (fun e s => some (e, s)) = (hsum.L1.out (hsum.L1.add d (hsum.L1.F d))).eval := lrun_one (F := fun d => hsum.L1.add d (hsum.L1.F d)) μ h
theorem hsum.L1.step {R : Type} (b_3 : (List Int)) (endL_2 : Nat) (n2_2 : (List Int)) (n4 : (List Int)) (n14_2 : (List Int)) (kn : AS → Option R) (kx : Exit → AS → Option R) : lround Try.prog hsum.G hsum.an 0 Try.f31 1 (hsum.L1.st (b_3, endL_2, n2_2, n4, n14_2)) kn kx =
  sel ((ige (((List.length b_3) : Nat) : Int) (64 : Int))) (
   sel (inc (64 : Int) (((List.length b_3) : Nat) : Int)) (
   obind (mix.call (n4, (cut b_3 0 64))) fun x1 =>
   sel (inc (64 : Int) (((List.length b_3) : Nat) : Int)) (
   kn (hsum.L1.st ((cut b_3 64 ((List.length b_3) - 64)), endL_2, n2_2, x1, n14_2))) none) none) (
   kx (hsum.L1.ex0 ((endL_2, n2_2, n14_2), n4)).1 (hsum.L1.ex0 ((endL_2, n2_2, n14_2), n4)).2) := by kernel_rfl
theorem hsum.L2.inj : ∀ d d', hsum.L2.st d = hsum.L2.st d' → d = d' := fun (endv, n2_3, n4_2) (endv', n2_3', n4_2') hEq => by
  have e0 : endv = endv' := d_inj (t := (.slice (.int .u8))) (congrArg (fun s : AS => (s.slot 3)) hEq)
  have e1 : n2_3 = n2_3' := d_inj (t := (.arr 32 (.int .u8))) (congrArg (fun s : AS => (entC (s.ent (.new 2 0)))) hEq)
  have e2 : n4_2 = n4_2' := d_inj (t := (.arr 8 (.int .u32))) (congrArg (fun s : AS => (entC (s.ent (.new 4 0)))) hEq)
  rw [e0, e1, e2]
theorem hsum.L2.run {d : hsum.L2.D} (h : hsum.L2.Pre d) : hsum.L2.call d = some (hsum.L2.add d (hsum.L2.F d)) := LEntry.of_run hsum.L2.inj h
theorem hsum.L2.byRounds (μ : hsum.L2.D → Nat) (h : ∀ d, hsum.L2.Pre d → (∃ d', hsum.L2.Pre d' ∧ μ d' < μ d ∧ hsum.L2.add d' (hsum.L2.F d') = hsum.L2.add d (hsum.L2.F d) ∧ ∀ {R : Type} (kn : AS → Option R) (kx : Exit → AS → Option R), lround Try.prog hsum.G hsum.an 0 Try.f31 2 (hsum.L2.st d) kn kx = kn (hsum.L2.st d')) ∨ (∀ {R : Type} (kn : AS → Option R) (kx : Exit → AS → Option R), lround Try.prog hsum.G hsum.an 0 Try.f31 2 (hsum.L2.st d) kn kx = kx (hsum.L2.ex0 (hsum.L2.add d (hsum.L2.F d))).1 (hsum.L2.ex0 (hsum.L2.add d (hsum.L2.F d))).2)) : ∀ d, hsum.L2.Pre d → ∃ n, lrun Try.prog hsum.G hsum.an 0 Try.f31 2 n (hsum.L2.st d) (fun e s => some (e, s)) = (hsum.L2.out (hsum.L2.add d (hsum.L2.F d))).eval := lrun_one (F := fun d => hsum.L2.add d (hsum.L2.F d)) μ h
theorem hsum.L2.step {R : Type} (endv : (List Int)) (n2_3 : (List Int)) (n4_2 : (List Int)) (kn : AS → Option R) (kx : Exit → AS → Option R) : lround Try.prog hsum.G hsum.an 0 Try.f31 2 (hsum.L2.st (endv, n2_3, n4_2)) kn kx =
  sel ((igt (((List.length endv) : Nat) : Int) (0 : Int))) (
   sel (inc (64 : Int) (((List.length endv) : Nat) : Int)) (
   obind (mix.call (n4_2, (cut endv 0 64))) fun x1 =>
   sel (inc (64 : Int) (((List.length endv) : Nat) : Int)) (
   kn (hsum.L2.st ((cut endv 64 ((List.length endv) - 64)), n2_3, x1))) none) none) (
   kx (hsum.L2.ex0 (n2_3, n4_2)).1 (hsum.L2.ex0 (n2_3, n4_2)).2) := by kernel_rfl
theorem hsum.L3.inj : ∀ d d', hsum.L3.st d = hsum.L3.st d' → d = d' := fun (t48, n2_4, n4_3) (t48', n2_4', n4_3') hEq => by
  have e0 : t48 = t48' := d_inj (t := (.int .i64)) (congrArg (fun s : AS => (s.slot 48)) hEq)
  have e1 : n2_4 = n2_4' := d_inj (t := (.arr 32 (.int .u8))) (congrArg (fun s : AS => (entC (s.ent (.new 2 0)))) hEq)
  have e2 : n4_3 = n4_3' := d_inj (t := (.arr 8 (.int .u32))) (congrArg (fun s : AS => (entC (s.ent (.new 4 0)))) hEq)
  rw [e0, e1, e2]
theorem hsum.L3.run {d : hsum.L3.D} (h : hsum.L3.Pre d) : hsum.L3.call d = some (hsum.L3.add d (hsum.L3.F d)) := LEntry.of_run hsum.L3.inj h
theorem hsum.L3.byRounds (μ : hsum.L3.D → Nat) (h : ∀ d, hsum.L3.Pre d → (∃ d', hsum.L3.Pre d' ∧ μ d' < μ d ∧ hsum.L3.add d' (hsum.L3.F d') = hsum.L3.add d (hsum.L3.F d) ∧ ∀ {R : Type} (kn : AS → Option R) (kx : Exit → AS → Option R), lround Try.prog hsum.G hsum.an 0 Try.f31 3 (hsum.L3.st d) kn kx = kn (hsum.L3.st d')) ∨ (∀ {R : Type} (kn : AS → Option R) (kx : Exit → AS → Option R), lround Try.prog hsum.G hsum.an 0 Try.f31 3 (hsum.L3.st d) kn kx = kx (hsum.L3.ex0 (hsum.L3.add d (hsum.L3.F d))).1 (hsum.L3.ex0 (hsum.L3.add d (hsum.L3.F d))).2)) : ∀ d, hsum.L3.Pre d → ∃ n, lrun Try.prog hsum.G hsum.an 0 Try.f31 3 n (hsum.L3.st d) (fun e s => some (e, s)) = (hsum.L3.out (hsum.L3.add d (hsum.L3.F d))).eval := lrun_one (F := fun d => hsum.L3.add d (hsum.L3.F d)) μ h
theorem hsum.L3.step {R : Type} (t48 : Int) (n2_4 : (List Int)) (n4_3 : (List Int)) (kn : AS → Option R) (kx : Exit → AS → Option R) : lround Try.prog hsum.G hsum.an 0 Try.f31 3 (hsum.L3.st (t48, n2_4, n4_3)) kn kx =
  sel ((ilt t48 (32 : Int))) (
   sel (inb (iquo .i64 t48 (4 : Int)) (8 : Int)) (
   sel (decide ((Int.toNat (iquo .i64 t48 (4 : Int))) < (List.length n4_3))) (
   sel (decide ((((Int.toNat (iquo .i64 t48 (4 : Int))) * 1) + 0) = (0 + ((Int.toNat (iquo .i64 t48 (4 : Int))) * 1)))) (
   sel (nonneg (isub .i64 (24 : Int) (imul .i64 (8 : Int) (irem t48 (4 : Int))))) (
   sel (inb t48 (32 : Int)) (
   sel (decide ((Int.toNat t48) < (List.length n2_4))) (
   sel (decide ((((Int.toNat t48) * 1) + 0) = (0 + ((Int.toNat t48) * 1)))) (
   sel (decide ((Int.toNat t48) < (List.length n2_4))) (
   kn (hsum.L3.st ((iadd .i64 t48 (1 : Int)), (List.set n2_4 (Int.toNat t48) (icv .u8 (ishr .u32 (nth (.int .u32) n4_3 (Int.toNat (iquo .i64 t48 (4 : Int)))) (isub .i64 (24 : Int) (imul .i64 (8 : Int) (irem t48 (4 : Int))))))), n4_3))) none) none) none) none) none) none) none) none) (
   kx (hsum.L3.ex0 n2_4).1 (hsum.L3.ex0 n2_4).2) := by kernel_rfl
theorem hsum.eq {R : Type} (b : (List Int)) (k : GRes → Option R) : arun Try.prog hsum.G hsum.an 0 Try.f31 (hsum.st b).1 (hsum.st b).2 k =
  sel (inc (isub .i64 (((List.length b) : Nat) : Int) (irem (((List.length b) : Nat) : Int) (64 : Int))) (((List.length b) : Nat) : Int)) (
  obind (clone8.call (cut b (Int.toNat (isub .i64 (((List.length b) : Nat) : Int) (irem (((List.length b) : Nat) : Int) (64 : Int)))) ((List.length b) - (Int.toNat (isub .i64 (((List.length b) : Nat) : Int) (irem (((List.length b) : Nat) : Int) (64 : Int))))))) fun x1 =>
  sel (decide (x1.1 ≤ (List.length x1.2))) (
  sel (roomA (x1.1 + 1) 1) (
  obind (hsum.L0.call (b, (x1.1 + 1), (List.replicate 32 (0 : Int)), ((List.take x1.1 x1.2) ++ [(128 : Int)]))) fun x2 =>
  obind (longs.call (x2.2.1, (imul .i64 (8 : Int) (((List.length x2.1.1) : Nat) : Int)), x2.2.2)) fun x3 =>
  obind (first.call ()) fun x4 =>
  obind (hsum.L1.call (x2.1.1, x3.1, x2.1.2, x4, x3.2)) fun x6 =>
  sel (decide (0 = 0 ∧ (0 + x6.1.1) ≤ (List.length x6.1.2.2))) (
  obind (hsum.L2.call ((cut x6.1.2.2 0 x6.1.1), x6.1.2.1, x6.2)) fun x9 =>
  obind (hsum.L3.call ((0 : Int), x9.1, x9.2)) fun x10 =>
  k (hsum.out x10)) none) none) none) none := by kernel_rfl


theorem hsum.L0.ok : ∀ d, hsum.L0.Pre d → ∃ n, lrun Try.prog hsum.G hsum.an 0 Try.f31 0 n (hsum.L0.st d) (fun e s => some (e, s)) = (hsum.L0.out (hsum.L0.add d (hsum.L0.F d))).eval := by
  refine hsum.L0.byRounds (fun (b, m, n2, l) => zc l.length) ?_
  rintro ⟨b, m, n2, l⟩ ⟨rfl, hl⟩
  have hl : l.length + zc l.length ≤ 140737488355328 := hl
  have hr : irem ((l.length : Nat) : Int) 64 = ((l.length % 64 : Nat) : Int) := by
    unfold irem
    rw [Int.tmod_eq_emod_of_nonneg (by omega)]
    omega
  by_cases h : l.length % 64 = 56
  · right
    intro R kn kx
    have hz : zc l.length = 0 := by unfold zc; omega
    rw [hsum.L0.step, hr, ine_false (by omega)]
    simp only [sel_false, hsum.L0.add, hsum.L0.F, hz, Nat.add_zero, List.replicate_zero, List.append_nil]
  · left
    have hz : zc l.length = zc (l.length + 1) + 1 := by unfold zc; omega
    refine ⟨(b, l.length + 1, n2, l ++ [0]), ⟨by simp, by simp only [List.length_append, List.length_cons, List.length_nil, Nat.zero_add]; omega⟩, by simp only [List.length_append, List.length_cons, List.length_nil, Nat.zero_add]; omega, ?_, fun kn kx => ?_⟩
    · simp only [hsum.L0.add, hsum.L0.F, List.length_append, List.length_cons, List.length_nil, Nat.zero_add, hz, List.append_assoc, List.cons_append, List.nil_append, List.replicate_succ]
      rw [show l.length + 1 + zc (l.length + 1) = l.length + (zc (l.length + 1) + 1) by omega]
    · rw [hsum.L0.step, hr, ine_true (by omega), room1 (by omega)]
      simp only [sel_true, Nat.le_refl, decide_true, List.take_length]
theorem hsum.L1.ok : ∀ d, hsum.L1.Pre d → ∃ n, lrun Try.prog hsum.G hsum.an 0 Try.f31 1 n (hsum.L1.st d) (fun e s => some (e, s)) = (hsum.L1.out (hsum.L1.add d (hsum.L1.F d))).eval := by
  refine hsum.L1.byRounds (fun (b, m, n2, h, l) => b.length) ?_
  rintro ⟨b, m, n2, h, l⟩ ⟨s, rfl⟩
  by_cases hb : 64 ≤ b.length
  · left
    have e1 : cut b 64 (b.length - 64) = b.drop 64 := by unfold cut; rw [List.take_of_length_le (by simp)]
    have e2 : cut b 0 64 = b.take 64 := rfl
    have hp : mix.Pre (s.l, b.take 64) := ⟨⟨s, rfl⟩, by simp; omega⟩
    refine ⟨(b.drop 64, m, n2, (mixS s (b.take 64)).l, l), ⟨_, rfl⟩, by simp; omega, ?_, fun kn kx => ?_⟩
    · simp only [hsum.L1.add, hsum.L1.F, toSt_l]
      rw [blocks_step s b hb]
    · rw [hsum.L1.step, ige_true (by omega), inc_true (by omega) (by omega), e1, e2]
      simp only [sel_true, mix.run hp, obind_some, mix.add, mix.F, toSt_l]
  · right
    intro R kn kx
    rw [hsum.L1.step, ige_false (by omega)]
    simp only [sel_false, hsum.L1.add, hsum.L1.F, toSt_l]
    rw [blocks_end s b (by omega)]
theorem hsum.L2.ok : ∀ d, hsum.L2.Pre d → ∃ n, lrun Try.prog hsum.G hsum.an 0 Try.f31 2 n (hsum.L2.st d) (fun e s => some (e, s)) = (hsum.L2.out (hsum.L2.add d (hsum.L2.F d))).eval := by
  refine hsum.L2.byRounds (fun (b, n2, h) => b.length) ?_
  rintro ⟨b, n2, h⟩ ⟨hm, s, rfl⟩
  have hm : b.length % 64 = 0 := hm
  by_cases hb : 0 < b.length
  · left
    have e1 : cut b 64 (b.length - 64) = b.drop 64 := by unfold cut; rw [List.take_of_length_le (by simp)]
    have e2 : cut b 0 64 = b.take 64 := rfl
    have hp : mix.Pre (s.l, b.take 64) := ⟨⟨s, rfl⟩, by simp; omega⟩
    refine ⟨(b.drop 64, n2, (mixS s (b.take 64)).l), ⟨by simp; omega, _, rfl⟩, by simp; omega, ?_, fun kn kx => ?_⟩
    · simp only [hsum.L2.add, hsum.L2.F, toSt_l]
      rw [blocks_step s b (by omega)]
    · rw [hsum.L2.step, igt_true (by omega), inc_true (by omega) (by omega), e1, e2]
      simp only [sel_true, mix.run hp, obind_some, mix.add, mix.F, toSt_l]
  · right
    intro R kn kx
    rw [hsum.L2.step, igt_false (by omega)]
    simp only [sel_false, hsum.L2.add, hsum.L2.F, toSt_l]
    rw [blocks_end s b (by omega)]
theorem hsum.L3.ok : ∀ d, hsum.L3.Pre d → ∃ n, lrun Try.prog hsum.G hsum.an 0 Try.f31 3 n (hsum.L3.st d) (fun e s => some (e, s)) = (hsum.L3.out (hsum.L3.add d (hsum.L3.F d))).eval := by
  refine hsum.L3.byRounds (fun (t, n2, h) => 32 - t.toNat) ?_
  rintro ⟨t, m, h⟩ ⟨hl, h8, k, hk, rfl⟩
  have hl : m.length = 32 := hl
  have h8 : h.length = 8 := h8
  have e2 : Int.toNat (k : Int) = k := by omega
  have e3 : Int.toNat ((k + 1 : Nat) : Int) = k + 1 := by omega
  by_cases hlt : k < 32
  · left
    have e1 : iadd .i64 (k : Int) 1 = ((k + 1 : Nat) : Int) := by rw [iadd_i64 (by omega) (by omega)]; omega
    have q4 : iquo .i64 (k : Int) 4 = ((k / 4 : Nat) : Int) := by
      have : (k : Int).tdiv 4 = ((k / 4 : Nat) : Int) := by rw [Int.tdiv_eq_ediv_of_nonneg (by omega)]; omega
      unfold iquo
      rw [this, i64_wrap (by omega) (by omega)]
    have r4 : irem (k : Int) 4 = ((k % 4 : Nat) : Int) := by
      unfold irem
      rw [Int.tmod_eq_emod_of_nonneg (by omega)]
      omega
    have s4 : isub .i64 24 (imul .i64 8 ((k % 4 : Nat) : Int)) = ((24 - 8 * (k % 4) : Nat) : Int) := by
      rw [imul_i64 (by omega) (by omega), isub_i64 (by omega) (by omega)]
      omega
    have e4 : Int.toNat ((k / 4 : Nat) : Int) = k / 4 := by omega
    refine ⟨(((k + 1 : Nat) : Int), m.set k (bytAt h k m[k]), h), ⟨by simpa using hl, h8, k + 1, by omega, rfl⟩, by simp; omega, ?_, fun kn kx => ?_⟩
    · simp only [hsum.L3.add, hsum.L3.F, e2, e3]
      rw [from_step (bytAt h) m k (by omega)]
    · have d0 : decide (k < 32) = true := dec_true hlt
      have d1 : decide (k / 4 < 8) = true := dec_true (by omega)
      rw [hsum.L3.step, ilt_true (by omega), q4, r4, s4, inb_true (by omega) (by omega), inb_true (by omega) (by omega), nonneg_true (by omega)]
      simp only [e1, e2, e4, Nat.mul_one, Nat.zero_add, Nat.add_zero, decide_true, sel_true, hl, h8, d0, d1, bytAt]
  · right
    obtain rfl : k = 32 := by omega
    intro R kn kx
    rw [hsum.L3.step, ilt_false (by omega)]
    simp only [sel_false, hsum.L3.add, hsum.L3.F, e2]
    rw [from_end _ _ _ (by omega)]
theorem ofInt8_vw (w : W) : BitVec.ofInt 8 (vw w) = w.setWidth 8 := by
  apply BitVec.eq_of_toNat_eq
  rw [BitVec.toNat_ofInt, BitVec.toNat_setWidth]
  unfold vw
  omega
theorem byt_eq (w : W) (k : Int) : icv .u8 (ishr .u32 (vw w) k) = vw ((w >>> k.toNat).setWidth 8) := by
  rw [ishr_u32, icv_u8, ofInt8_vw]
theorem outb_eq (s : St) : from_ (bytAt s.l) 0 (List.replicate 32 0) = outb s := by
  rw [from_replicate]
  simp only [List.range_eq_range', List.range', List.map_cons, List.map_nil, bytAt, Nat.reduceAdd, Nat.reduceDiv, Nat.reduceMod, Nat.reduceMul, Nat.reduceSub, n0, n1, n2, n3, n4, n5, n6, n7, byt_eq]
  rfl
theorem hsum.ok : ∀ d, hsum.Pre d → arun Try.prog hsum.G hsum.an 0 Try.f31 (hsum.st d).1 (hsum.st d).2 some = some (hsum.out (hsum.add d (hsum.F d))) := by
  intro b hb
  have hb : b.length ≤ 140737488350000 := hb
  have hr : irem ((b.length : Nat) : Int) 64 = ((b.length % 64 : Nat) : Int) := by
    unfold irem
    rw [Int.tmod_eq_emod_of_nonneg (by omega)]
    omega
  have hs : isub .i64 ((b.length : Nat) : Int) ((b.length % 64 : Nat) : Int) = ((b.length - b.length % 64 : Nat) : Int) := by
    rw [isub_i64 (by omega) (by omega)]; omega
  have hn : Int.toNat ((b.length - b.length % 64 : Nat) : Int) = b.length - b.length % 64 := by omega
  have hm : imul .i64 8 ((b.length : Nat) : Int) = 8 * (b.length : Int) := imul_i64 (by omega) (by omega)
  generalize hq : b.length - b.length % 64 = q at hs hn
  have hc : cut b q (b.length - q) = b.drop q := by unfold cut; rw [List.take_of_length_le (by simp)]
  have hcl : (b.drop q).length = b.length % 64 := by simp; omega
  have p1 : clone8.Pre (b.drop q) := by show (b.drop q).length ≤ _; omega
  rw [hsum.eq, hr, hs, inc_true (by omega) (by omega), hn, hc]
  simp only [sel_true, clone8.run p1, obind_some, clone8.add, clone8.F, Nat.le_refl, decide_true, List.take_length]
  have p2 : hsum.L0.Pre (b, (b.drop q).length + 1, List.replicate 32 0, b.drop q ++ [128]) := by
    refine ⟨by simp, ?_⟩
    simp only [List.length_append, List.length_cons, List.length_nil, zc]
    omega
  have hz : zc (b.drop q ++ [128]).length = padn b.length := by
    simp only [List.length_append, List.length_cons, List.length_nil, zc, padn]
    omega
  rw [room1 (by omega)]
  simp only [sel_true, hsum.L0.run p2, obind_some, hsum.L0.add, hsum.L0.F, hm, hz]
  have hlen : (b.drop q ++ [128]).length + padn b.length = (b.drop q ++ [128] ++ List.replicate (padn b.length) 0).length := by rw [@List.length_append _ (b.drop q ++ [128]), List.length_replicate]
  have p3 : longs.Pre ((b.drop q ++ [128]).length + padn b.length, 8 * (b.length : Int), b.drop q ++ [128] ++ List.replicate (padn b.length) 0) := by
    refine ⟨hlen, ?_⟩
    simp only [List.length_append, List.length_cons, List.length_nil, List.length_replicate, padn]
    omega
  have p4 : hsum.L1.Pre (b, (b.drop q ++ [128] ++ List.replicate (padn b.length) 0).length + 8, List.replicate 32 0, first0.l, b.drop q ++ [128] ++ List.replicate (padn b.length) 0 ++ be8 (8 * (b.length : Int))) := ⟨first0, rfl⟩
  simp only [longs.run p3, obind_some, longs.add, longs.F, first.run (d := ()) trivial, first.add, first.F, hsum.L1.run p4, hsum.L1.add, hsum.L1.F, toSt_l]
  generalize he : b.drop q ++ [128] ++ List.replicate (padn b.length) 0 ++ be8 (8 * (b.length : Int)) = e
  have hel : (b.drop q ++ [128] ++ List.replicate (padn b.length) 0).length + 8 = e.length := by rw [← he, @List.length_append _ _ (be8 _), be8_length]
  have hem : e.length % 64 = 0 := by
    rw [← hel]
    simp only [List.length_append, List.length_cons, List.length_nil, List.length_replicate, padn, hcl]
    omega
  have hce : cut e 0 ((b.drop q ++ [128] ++ List.replicate (padn b.length) 0).length + 8) = e := by
    rw [hel]; unfold cut; rw [List.drop_zero, List.take_length]
  rw [hce, hel, dec_true ⟨trivial, by omega⟩]
  have p5 : hsum.L2.Pre (e, List.replicate 32 0, (blocks first0 b).l) := ⟨hem, blocks first0 b, rfl⟩
  have p6 : hsum.L3.Pre (0, List.replicate 32 0, (blocks (blocks first0 b) e).l) := ⟨rfl, rfl, 0, by omega, rfl⟩
  simp only [sel_true, hsum.L2.run p5, obind_some, hsum.L2.add, hsum.L2.F, toSt_l, hsum.L3.run p6, hsum.L3.add, hsum.L3.F, hsum.add, hsum.F]
  rw [show Int.toNat 0 = 0 from rfl, outb_eq]
  have hbl : blocks first0 (pad b) = blocks (blocks first0 b) e := by
    have h1 : pad b = b.take q ++ e := by
      rw [← he]
      unfold pad
      rw [List.append_assoc, List.append_assoc, ← List.append_assoc (b.take q), List.take_append_drop]
      rfl
    have h2 : blocks first0 b = blocks (blocks first0 (b.take q)) (b.drop q) := by
      rw [← blocks_append _ _ _ (by simp; omega), List.take_append_drop]
    rw [h1, blocks_append _ _ _ (by simp; omega), h2, blocks_end _ (b.drop q) (by omega)]
  rw [sha, hbl]

theorem hsum.inj : ∀ d d', hsum.st d = hsum.st d' → d = d' := fun b b' hEq => by
  have e0 : b = b' := d_inj (t := (.slice (.int .u8))) (congrArg (fun s : List AVal × List Ent => (s.1.getD 0 .undef)) hEq)
  rw [e0]
noncomputable def hsum.E : Entry := Entry.of [some (.slice (.int .u8))] hsum.st hsum.Pre (fun d => hsum.add d (hsum.F d)) hsum.out
noncomputable def hsum.call : hsum.D → Option hsum.X := fun d => hsum.E.run (hsum.st d).1 (hsum.st d).2
theorem hsum.run {d : hsum.D} (h : hsum.Pre d) : hsum.call d = some (hsum.add d (hsum.F d)) := Entry.of_run hsum.inj h
theorem hsum.does : Does Try.prog 31 hsum.E := Does.of (by kernel_rfl) (show Sound _ hsum.G from Sound.cons clone8.does (Sound.cons longs.does (Sound.cons first.does (Sound.cons mix.does (Sound.nil _))))) (by kernel_rfl) (by kernel_rfl) (by kernel_rfl) (LOk.fn 4 (by kernel_rfl) (And.intro (LDo.of (by kernel_rfl) hsum.L0.ok) (And.intro (LDo.of (by kernel_rfl) hsum.L1.ok) (And.intro (LDo.of (by kernel_rfl) hsum.L2.ok) (And.intro (LDo.of (by kernel_rfl) hsum.L3.ok) trivial))))) hsum.ok

end Go.Ab
