/-
  Made by a program of mine (wip/gen), and by hand.
-/
import Derived.Test.YtglpcfdjdabdnaaHa2
namespace Go.Ab
open Go.Proofs
set_option maxRecDepth 100000
set_option linter.unusedVariables false
set_option linter.unusedSimpArgs false

/-! ### (corsned/hash.words).mix -/
abbrev mix.L0.D := (List Int) × Int × (List Int) × (List Int) × (List Int) × (List Int)
def mix.L0.st : mix.L0.D → AS := fun (h_2, t18, n4, n5, n6, n7) => ⟨([.undef, .undef, .rptr (.arr 8 (.int .u32)) h_2, .undef, .ptr (.new 4 0) 0 [] 0, .ptr (.new 5 0) 0 [] 0, .ptr (.new 6 0) 0 [] 0, .ptr (.new 7 0) 0 [] 0] ++ undN 10 ([.d (.int .i64) t18] ++ undN 98 [])), [], (nilN 4 ([[.obj 0 false (.d (.arr 8 (.int .u32)) n4)], [.obj 0 false (.d (.arr 64 (.int .u32)) n5)], [.obj 0 false (.d (.arr 64 (.int .u32)) n6)], [.obj 0 false (.d (.arr 8 (.int .u32)) n7)]] ++ nilN 109 []))⟩
abbrev mix.L0.Y0 := (List Int)  -- n7
abbrev mix.L0.X0 := ((List Int) × (List Int)) × ((List Int))
def mix.L0.ex0 : mix.L0.X0 → Exit × AS := fun x => (.exit 0, ⟨([.undef, .undef, .rptr (.arr 8 (.int .u32)) x.1.1, .undef, .ptr (.new 4 0) 0 [] 0, .undef, .undef, .ptr (.new 7 0) 0 [] 0] ++ undN 109 []), [], (nilN 4 ([[.obj 0 false (.d (.arr 8 (.int .u32)) x.1.2)], [], [], [.obj 0 false (.d (.arr 8 (.int .u32)) x.2)]] ++ nilN 109 []))⟩)
abbrev mix.L0.X := mix.L0.X0
abbrev mix.L0.Y := mix.L0.Y0
def mix.L0.out : mix.L0.X → Out (Exit × AS) := fun x => .ok (mix.L0.ex0 x)
def mix.L0.add : mix.L0.D → mix.L0.Y → mix.L0.X := fun (h_2, t18, n4, n5, n6, n7) y => ((h_2, n4), y)
abbrev mix.L1.D := (List Int) × Int × (List Int) × (List Int)
def mix.L1.st : mix.L1.D → AS := fun (h_3, t104, n4_2, n7_2) => ⟨([.undef, .undef, .rptr (.arr 8 (.int .u32)) h_3, .undef, .ptr (.new 4 0) 0 [] 0, .undef, .undef, .ptr (.new 7 0) 0 [] 0] ++ undN 96 ([.d (.int .i64) t104] ++ undN 12 [])), [], (nilN 4 ([[.obj 0 false (.d (.arr 8 (.int .u32)) n4_2)], [], [], [.obj 0 false (.d (.arr 8 (.int .u32)) n7_2)]] ++ nilN 109 []))⟩
abbrev mix.L1.Y0 := (List Int)  -- n7
abbrev mix.L1.X0 := ((List Int)) × ((List Int))
def mix.L1.ex0 : mix.L1.X0 → Exit × AS := fun x => (.exit 2, ⟨(undN 4 ([.ptr (.new 4 0) 0 [] 0, .undef, .undef, .ptr (.new 7 0) 0 [] 0] ++ undN 109 [])), [], (nilN 4 ([[.obj 0 false (.d (.arr 8 (.int .u32)) x.1)], [], [], [.obj 0 false (.d (.arr 8 (.int .u32)) x.2)]] ++ nilN 109 []))⟩)
abbrev mix.L1.X := mix.L1.X0
abbrev mix.L1.Y := mix.L1.Y0
def mix.L1.out : mix.L1.X → Out (Exit × AS) := fun x => .ok (mix.L1.ex0 x)
def mix.L1.add : mix.L1.D → mix.L1.Y → mix.L1.X := fun (h_3, t104, n4_2, n7_2) y => (n4_2, y)
abbrev mix.D := (List Int) × (List Int)
def mix.st : mix.D → List AVal × List Ent := fun (h, b) => ([.d (.arr 8 (.int .u32)) h, .d (.slice (.int .u8)) b], [])
abbrev mix.Y := (List Int)
abbrev mix.X := (List Int)
def mix.out : mix.X → GRes := fun x => ⟨.d (.arr 8 (.int .u32)) x, [], []⟩
def mix.add : mix.D → mix.Y → mix.X := fun (h, b) y => y


def toSt (l : List Int) : St := ⟨BitVec.ofInt 32 (l.getD 0 0), BitVec.ofInt 32 (l.getD 1 0), BitVec.ofInt 32 (l.getD 2 0), BitVec.ofInt 32 (l.getD 3 0), BitVec.ofInt 32 (l.getD 4 0), BitVec.ofInt 32 (l.getD 5 0), BitVec.ofInt 32 (l.getD 6 0), BitVec.ofInt 32 (l.getD 7 0)⟩
theorem toSt_l (s : St) : toSt s.l = s := by
  obtain ⟨a, b, c, d, e, f, g, h⟩ := s
  simp [toSt, St.l, ofInt_vw]
def unwl (l : List Int) : List W := l.map (BitVec.ofInt 32)
theorem unwl_wl (l : List W) : unwl (wl l) = l := by
  unfold unwl wl
  rw [List.map_map]
  have : (BitVec.ofInt 32 ∘ vw) = (id : W → W) := by funext w; exact ofInt_vw w
  rw [this, List.map_id]
def mix.L0.Pre : mix.L0.D → Prop := fun (h, t, n4, n5, n6, n7) => ∃ (s : St) (ws : List W) (k : Nat), h = s.l ∧ n5 = wl ws ∧ ws.length = 64 ∧ k ≤ 64 ∧ t = k ∧ n6 = kint ∧ n7 = (rounds ws s k).l
def mix.L0.F : mix.L0.D → mix.L0.Y := fun (h, t, n4, n5, n6, n7) => (rounds (unwl n5) (toSt h) 64).l
def mix.L1.Pre : mix.L1.D → Prop := fun (h, t, n4, n7) => n7.length = 8 ∧ ∃ k : Nat, k ≤ 8 ∧ t = k
def mix.L1.F : mix.L1.D → mix.L1.Y := fun (h, t, n4, n7) => from_ (fun i x => iadd .u32 x (nth (.int .u32) h i)) t.toNat n7
def mix.Pre : mix.D → Prop := fun (h, b) => (∃ s : St, h = s.l) ∧ 64 ≤ b.length
def mix.F : mix.D → mix.Y := fun (h, b) => (mixS (toSt h) b).l

noncomputable def mix.G : Gam := gcons 69 anyArgs schedule.E (gcons 70 anyArgs table.E (gcons 71 anyArgs rotl32.E (gnil)))
noncomputable def mix.L0.E : LEntry := LEntry.of mix.L0.st mix.L0.Pre (fun d => mix.L0.add d (mix.L0.F d)) mix.L0.out
noncomputable def mix.L0.call : mix.L0.D → Option mix.L0.X := fun d => mix.L0.E.run (mix.L0.st d)
noncomputable def mix.L1.E : LEntry := LEntry.of mix.L1.st mix.L1.Pre (fun d => mix.L1.add d (mix.L1.F d)) mix.L1.out
noncomputable def mix.L1.call : mix.L1.D → Option mix.L1.X := fun d => mix.L1.E.run (mix.L1.st d)
noncomputable def mix.an : Ann := {
  objs := [],
  loops := fun r => bif Nat.beq r 4 then { keep := [2, 4, 5, 6, 7, 18], sites := [4, 5, 6, 7], frz := [], data := [], owns := [] } else bif Nat.beq r 13 then { keep := [2, 4, 7, 104], sites := [4, 7], frz := [], data := [], owns := [] } else { keep := [], sites := [], frz := [], data := [], owns := [] },
  outs := fun r b => bif Nat.beq r 4 then (bif b then { keep := [4], sites := [], frz := [], data := [], owns := [] } else { keep := [2, 4, 7], sites := [4, 7], frz := [], data := [], owns := [] }) else bif Nat.beq r 13 then (bif b then { keep := [4], sites := [], frz := [], data := [], owns := [] } else { keep := [4, 7], sites := [4, 7], frz := [], data := [], owns := [] }) else { keep := [], sites := [], frz := [], data := [], owns := [] },
  sums := fun r => bif Nat.beq r 4 then some mix.L0.E else bif Nat.beq r 13 then some mix.L1.E else none,
  owns := [],
  trim := [],
  res := [] }
theorem mix.L0.inj : ∀ d d', mix.L0.st d = mix.L0.st d' → d = d' := fun (h_2, t18, n4, n5, n6, n7) (h_2', t18', n4', n5', n6', n7') hEq => by
  have e0 : h_2 = h_2' := rptr_inj (t := (.arr 8 (.int .u32))) (congrArg (fun s : AS => (s.slot 2)) hEq)
  have e1 : t18 = t18' := d_inj (t := (.int .i64)) (congrArg (fun s : AS => (s.slot 18)) hEq)
  have e2 : n4 = n4' := d_inj (t := (.arr 8 (.int .u32))) (congrArg (fun s : AS => (entC (s.ent (.new 4 0)))) hEq)
  have e3 : n5 = n5' := d_inj (t := (.arr 64 (.int .u32))) (congrArg (fun s : AS => (entC (s.ent (.new 5 0)))) hEq)
  have e4 : n6 = n6' := d_inj (t := (.arr 64 (.int .u32))) (congrArg (fun s : AS => (entC (s.ent (.new 6 0)))) hEq)
  have e5 : n7 = n7' := d_inj (t := (.arr 8 (.int .u32))) (congrArg (fun s : AS => (entC (s.ent (.new 7 0)))) hEq)
  rw [e0, e1, e2, e3, e4, e5]
theorem mix.L0.run {d : mix.L0.D} (h : mix.L0.Pre d) : mix.L0.call d = some (mix.L0.add d (mix.L0.F d)) := LEntry.of_run mix.L0.inj h
theorem mix.L0.byRounds (μ : mix.L0.D → Nat) (h : ∀ d, mix.L0.Pre d → (∃ d', mix.L0.Pre d' ∧ μ d' < μ d ∧ mix.L0.add d' (mix.L0.F d') = mix.L0.add d (mix.L0.F d) ∧ ∀ {R : Type} (kn : AS → Option R) (kx : Exit → AS → Option R), lround Try.prog mix.G mix.an 0 Try.f55 0 (mix.L0.st d) kn kx = kn (mix.L0.st d')) ∨ (∀ {R : Type} (kn : AS → Option R) (kx : Exit → AS → Option R), lround Try.prog mix.G mix.an 0 Try.f55 0 (mix.L0.st d) kn kx = kx (mix.L0.ex0 (mix.L0.add d (mix.L0.F d))).1 (mix.L0.ex0 (mix.L0.add d (mix.L0.F d))).2)) : ∀ d, mix.L0.Pre d → ∃ n, lrun Try.prog mix.G mix.an 0 Try.f55 0 n (mix.L0.st d) (fun e s => some (e, s)) = (mix.L0.out (mix.L0.add d (mix.L0.F d))).eval := lrun_one (F := fun d => mix.L0.add d (mix.L0.F d)) μ h
theorem mix.L0.step {R : Type} (h_2 : (List Int)) (t18 : Int) (n4 : (List Int)) (n5 : (List Int)) (n6 : (List Int)) (n7 : (List Int)) (kn : AS → Option R) (kx : Exit → AS → Option R) : lround Try.prog mix.G mix.an 0 Try.f55 0 (mix.L0.st (h_2, t18, n4, n5, n6, n7)) kn kx =
  sel ((ilt t18 (64 : Int))) (
   sel (decide (4 < (List.length n7))) (
   obind (rotl32.call ((nth (.int .u32) n7 4), (-6 : Int))) fun x1 =>
   sel (decide (4 < (List.length n7))) (
   obind (rotl32.call ((nth (.int .u32) n7 4), (-11 : Int))) fun x2 =>
   sel (decide (4 < (List.length n7))) (
   obind (rotl32.call ((nth (.int .u32) n7 4), (-25 : Int))) fun x3 =>
   sel (decide (7 < (List.length n7))) (
   sel (decide (6 < (List.length n7))) (
   sel (decide (4 < (List.length n7))) (
   sel (decide (5 < (List.length n7))) (
   sel (decide (6 < (List.length n7))) (
   sel (inb t18 (64 : Int)) (
   sel (decide ((Int.toNat t18) < (List.length n6))) (
   sel (decide ((((Int.toNat t18) * 1) + 0) = (0 + ((Int.toNat t18) * 1)))) (
   sel (inb t18 (64 : Int)) (
   sel (decide ((Int.toNat t18) < (List.length n5))) (
   sel (decide ((((Int.toNat t18) * 1) + 0) = (0 + ((Int.toNat t18) * 1)))) (
   sel (decide (0 < (List.length n7))) (
   obind (rotl32.call ((nth (.int .u32) n7 0), (-2 : Int))) fun x4 =>
   sel (decide (0 < (List.length n7))) (
   obind (rotl32.call ((nth (.int .u32) n7 0), (-13 : Int))) fun x5 =>
   sel (decide (0 < (List.length n7))) (
   obind (rotl32.call ((nth (.int .u32) n7 0), (-22 : Int))) fun x6 =>
   sel (decide (0 < (List.length n7))) (
   sel (decide (1 < (List.length n7))) (
   sel (decide (2 < (List.length n7))) (
   sel (decide (0 < (List.length n7))) (
   sel (decide (1 < (List.length n7))) (
   sel (decide (0 < (List.length n7))) (
   sel (decide (1 < (List.length n7))) (
   sel (decide (2 < (List.length n7))) (
   sel (decide (3 < (List.length n7))) (
   sel (decide (4 < (List.length n7))) (
   sel (decide (5 < (List.length n7))) (
   sel (decide (6 < (List.length n7))) (
   kn (mix.L0.st (h_2, (iadd .i64 t18 (1 : Int)), n4, n5, n6, [(iadd .u32 (iadd .u32 (iadd .u32 (iadd .u32 (iadd .u32 (iadd .u32 (nth (.int .u32) n7 7) (bitop .xor .u32 (bitop .xor .u32 x1 x2) x3)) (bitop .xor .u32 (nth (.int .u32) n7 6) (bitop .and .u32 (nth (.int .u32) n7 4) (bitop .xor .u32 (nth (.int .u32) n7 5) (nth (.int .u32) n7 6))))) (nth (.int .u32) n6 (Int.toNat t18))) (nth (.int .u32) n5 (Int.toNat t18))) (bitop .xor .u32 (bitop .xor .u32 x4 x5) x6)) (bitop .or .u32 (bitop .and .u32 (nth (.int .u32) n7 0) (nth (.int .u32) n7 1)) (bitop .and .u32 (nth (.int .u32) n7 2) (bitop .or .u32 (nth (.int .u32) n7 0) (nth (.int .u32) n7 1))))), (nth (.int .u32) n7 0), (nth (.int .u32) n7 1), (nth (.int .u32) n7 2), (iadd .u32 (nth (.int .u32) n7 3) (iadd .u32 (iadd .u32 (iadd .u32 (iadd .u32 (nth (.int .u32) n7 7) (bitop .xor .u32 (bitop .xor .u32 x1 x2) x3)) (bitop .xor .u32 (nth (.int .u32) n7 6) (bitop .and .u32 (nth (.int .u32) n7 4) (bitop .xor .u32 (nth (.int .u32) n7 5) (nth (.int .u32) n7 6))))) (nth (.int .u32) n6 (Int.toNat t18))) (nth (.int .u32) n5 (Int.toNat t18)))), (nth (.int .u32) n7 4), (nth (.int .u32) n7 5), (nth (.int .u32) n7 6)]))) none) none) none) none) none) none) none) none) none) none) none) none) none) none) none) none) none) none) none) none) none) none) none) none) none) none) none) none) none) (
   kx (mix.L0.ex0 ((h_2, n4), n7)).1 (mix.L0.ex0 ((h_2, n4), n7)).2) := by kernel_rfl
theorem mix.L1.inj : ∀ d d', mix.L1.st d = mix.L1.st d' → d = d' := fun (h_3, t104, n4_2, n7_2) (h_3', t104', n4_2', n7_2') hEq => by
  have e0 : h_3 = h_3' := rptr_inj (t := (.arr 8 (.int .u32))) (congrArg (fun s : AS => (s.slot 2)) hEq)
  have e1 : t104 = t104' := d_inj (t := (.int .i64)) (congrArg (fun s : AS => (s.slot 104)) hEq)
  have e2 : n4_2 = n4_2' := d_inj (t := (.arr 8 (.int .u32))) (congrArg (fun s : AS => (entC (s.ent (.new 4 0)))) hEq)
  have e3 : n7_2 = n7_2' := d_inj (t := (.arr 8 (.int .u32))) (congrArg (fun s : AS => (entC (s.ent (.new 7 0)))) hEq)
  rw [e0, e1, e2, e3]
theorem mix.L1.run {d : mix.L1.D} (h : mix.L1.Pre d) : mix.L1.call d = some (mix.L1.add d (mix.L1.F d)) := LEntry.of_run mix.L1.inj h
theorem mix.L1.byRounds (μ : mix.L1.D → Nat) (h : ∀ d, mix.L1.Pre d → (∃ d', mix.L1.Pre d' ∧ μ d' < μ d ∧ mix.L1.add d' (mix.L1.F d') = mix.L1.add d (mix.L1.F d) ∧ ∀ {R : Type} (kn : AS → Option R) (kx : Exit → AS → Option R), lround Try.prog mix.G mix.an 0 Try.f55 1 (mix.L1.st d) kn kx = kn (mix.L1.st d')) ∨ (∀ {R : Type} (kn : AS → Option R) (kx : Exit → AS → Option R), lround Try.prog mix.G mix.an 0 Try.f55 1 (mix.L1.st d) kn kx = kx (mix.L1.ex0 (mix.L1.add d (mix.L1.F d))).1 (mix.L1.ex0 (mix.L1.add d (mix.L1.F d))).2)) : ∀ d, mix.L1.Pre d → ∃ n, lrun Try.prog mix.G mix.an 0 Try.f55 1 n (mix.L1.st d) (fun e s => some (e, s)) = (mix.L1.out (mix.L1.add d (mix.L1.F d))).eval := lrun_one (F := fun d => mix.L1.add d (mix.L1.F d)) μ h
theorem mix.L1.step {R : Type} (h_3 : (List Int)) (t104 : Int) (n4_2 : (List Int)) (n7_2 : (List Int)) (kn : AS → Option R) (kx : Exit → AS → Option R) : lround Try.prog mix.G mix.an 0 Try.f55 1 (mix.L1.st (h_3, t104, n4_2, n7_2)) kn kx =
  sel ((ilt t104 (8 : Int))) (
   sel (inb t104 (8 : Int)) (
   sel (decide ((Int.toNat t104) < (List.length n7_2))) (
   sel (decide ((((Int.toNat t104) * 1) + 0) = (0 + ((Int.toNat t104) * 1)))) (
   sel (inb t104 (8 : Int)) (
   sel (inb t104 (8 : Int)) (
   sel (decide ((Int.toNat t104) < (List.length n7_2))) (
   sel (decide ((((Int.toNat t104) * 1) + 0) = (0 + ((Int.toNat t104) * 1)))) (
   sel (decide ((Int.toNat t104) < (List.length n7_2))) (
   kn (mix.L1.st (h_3, (iadd .i64 t104 (1 : Int)), n4_2, (List.set n7_2 (Int.toNat t104) (iadd .u32 (nth (.int .u32) n7_2 (Int.toNat t104)) (nth (.int .u32) h_3 (Int.toNat t104))))))) none) none) none) none) none) none) none) none) (
   kx (mix.L1.ex0 (n4_2, n7_2)).1 (mix.L1.ex0 (n4_2, n7_2)).2) := by kernel_rfl
theorem mix.eq {R : Type} (h : (List Int)) (b : (List Int)) (k : GRes → Option R) : arun Try.prog mix.G mix.an 0 Try.f55 (mix.st (h, b)).1 (mix.st (h, b)).2 k =
  obind (schedule.call b) fun x1 =>
  obind (table.call ()) fun x2 =>
  obind (mix.L0.call (h, (0 : Int), (List.replicate 8 (0 : Int)), x1, x2, h)) fun x9 =>
  obind (mix.L1.call (x9.1.1, (0 : Int), x9.1.2, x9.2)) fun x10 =>
  k (mix.out x10.2) := by kernel_rfl


theorem St.l_length (s : St) : s.l.length = 8 := rfl
theorem kint_length : kint.length = 64 := rfl
theorem kint_get (k : Nat) (h : k < 64) : nth (.int .u32) kint k = vw (kw k) := by
  have hh : ∀ k : Fin 64, nth (.int .u32) kint k.val = vw (kw k.val) := by decide +kernel
  exact hh ⟨k, h⟩
theorem wl_get (ws : List W) (k : Nat) (h : k < ws.length) : nth (.int .u32) (wl ws) k = vw (ws.getD k 0) := by
  unfold nth wl
  simp [h]
theorem rl6 (w : W) : rl w ((-6 : Int) % 32).toNat = rotr w 6 := rfl
theorem rl11 (w : W) : rl w ((-11 : Int) % 32).toNat = rotr w 11 := rfl
theorem rl25 (w : W) : rl w ((-25 : Int) % 32).toNat = rotr w 25 := rfl
theorem rl2 (w : W) : rl w ((-2 : Int) % 32).toNat = rotr w 2 := rfl
theorem rl13 (w : W) : rl w ((-13 : Int) % 32).toNat = rotr w 13 := rfl
theorem rl22 (w : W) : rl w ((-22 : Int) % 32).toNat = rotr w 22 := rfl
theorem n0 (s : St) : nth (.int .u32) s.l 0 = vw s.a := rfl
theorem n1 (s : St) : nth (.int .u32) s.l 1 = vw s.b := rfl
theorem n2 (s : St) : nth (.int .u32) s.l 2 = vw s.c := rfl
theorem n3 (s : St) : nth (.int .u32) s.l 3 = vw s.d := rfl
theorem n4 (s : St) : nth (.int .u32) s.l 4 = vw s.e := rfl
theorem n5 (s : St) : nth (.int .u32) s.l 5 = vw s.f := rfl
theorem n6 (s : St) : nth (.int .u32) s.l 6 = vw s.g := rfl
theorem n7 (s : St) : nth (.int .u32) s.l 7 = vw s.h := rfl
theorem mix.L0.ok : ∀ d, mix.L0.Pre d → ∃ n, lrun Try.prog mix.G mix.an 0 Try.f55 0 n (mix.L0.st d) (fun e s => some (e, s)) = (mix.L0.out (mix.L0.add d (mix.L0.F d))).eval := by
  refine mix.L0.byRounds (fun (h, t, n4, n5, n6, n7) => 64 - t.toNat) ?_
  rintro ⟨h, t, m4, m5, m6, m7⟩ ⟨s, ws, k, rfl, rfl, hw, hk, rfl, rfl, rfl⟩
  by_cases hlt : k < 64
  · left
    refine ⟨(s.l, ((k + 1 : Nat) : Int), m4, wl ws, kint, (rounds ws s (k + 1)).l), ⟨s, ws, k + 1, rfl, rfl, hw, by omega, rfl, rfl, rfl⟩, by simp; omega, rfl, fun kn kx => ?_⟩
    have e1 : iadd .i64 (k : Int) 1 = ((k + 1 : Nat) : Int) := by rw [iadd_i64 (by omega) (by omega)]; omega
    have e2 : Int.toNat (k : Int) = k := by omega
    have hwl : (wl ws).length = 64 := by simp [wl, hw]
    have d0 : decide (k < 64) = true := dec_true hlt
    have i0 : inb (k : Int) 64 = true := inb_true (by omega) (by omega)
    rw [mix.L0.step, ilt_true (by omega)]
    generalize hv : rounds ws s k = v
    simp only [e1, e2, Nat.mul_one, Nat.zero_add, Nat.add_zero, decide_true, sel_true, St.l_length, Nat.reduceLT, kint_length, hwl, d0, i0, n0, n1, n2, n3, n4, n5, n6, n7, rotl32.at, obind_some, kint_get k hlt, wl_get ws k (by omega), bitop_u32, iadd_u32, rl6, rl11, rl25, rl2, rl13, rl22]
    show kn _ = kn (mix.L0.st (s.l, ((k + 1 : Nat) : Int), m4, wl ws, kint, (rnd (rounds ws s k) (kw k) (ws.getD k 0)).l))
    rw [hv]
    rfl
  · right
    obtain rfl : k = 64 := by omega
    intro R kn kx
    rw [mix.L0.step, ilt_false (by omega)]
    simp only [sel_false, mix.L0.add, mix.L0.F, unwl_wl, toSt_l]
theorem mix.L1.ok : ∀ d, mix.L1.Pre d → ∃ n, lrun Try.prog mix.G mix.an 0 Try.f55 1 n (mix.L1.st d) (fun e s => some (e, s)) = (mix.L1.out (mix.L1.add d (mix.L1.F d))).eval := by
  refine mix.L1.byRounds (fun (h, t, n4, n7) => 8 - t.toNat) ?_
  rintro ⟨h, t, m4, m7⟩ ⟨hl, k, hk, rfl⟩
  have hl : m7.length = 8 := hl
  have e2 : Int.toNat (k : Int) = k := by omega
  have e3 : Int.toNat ((k + 1 : Nat) : Int) = k + 1 := by omega
  by_cases hlt : k < 8
  · left
    have e1 : iadd .i64 (k : Int) 1 = ((k + 1 : Nat) : Int) := by rw [iadd_i64 (by omega) (by omega)]; omega
    have hn : nth (.int .u32) m7 k = m7[k] := nth_lt (t := .int .u32) (by omega)
    refine ⟨(h, ((k + 1 : Nat) : Int), m4, m7.set k (iadd .u32 m7[k] (nth (.int .u32) h k))), ⟨by simpa using hl, k + 1, by omega, rfl⟩, by simp; omega, ?_, fun kn kx => ?_⟩
    · simp only [mix.L1.add, mix.L1.F, e2, e3]
      rw [from_step (fun i x => iadd .u32 x (nth (.int .u32) h i)) m7 k (by omega)]
    · have d0 : decide (k < 8) = true := dec_true hlt
      have i0 : inb (k : Int) 8 = true := inb_true (by omega) (by omega)
      rw [mix.L1.step, ilt_true (by omega)]
      simp only [e1, e2, Nat.mul_one, Nat.zero_add, Nat.add_zero, decide_true, sel_true, hl, d0, i0, hn]
  · right
    obtain rfl : k = 8 := by omega
    intro R kn kx
    rw [mix.L1.step, ilt_false (by omega)]
    simp only [sel_false, mix.L1.add, mix.L1.F, e2]
    rw [from_end _ _ _ (by omega)]
theorem mix.ok : ∀ d, mix.Pre d → arun Try.prog mix.G mix.an 0 Try.f55 (mix.st d).1 (mix.st d).2 some = some (mix.out (mix.add d (mix.F d))) := by
  rintro ⟨h, b⟩ ⟨⟨s, rfl⟩, hb⟩
  have hs : schedule.Pre b := hb
  have hsl : (sched b).length = 64 := by unfold sched; rw [wsN_length, words_length]
  have hp : mix.L0.Pre (s.l, 0, List.replicate 8 0, wl (sched b), kint, s.l) := ⟨s, sched b, 0, rfl, rfl, hsl, by omega, rfl, rfl, rfl⟩
  rw [mix.eq, schedule.run hs]
  simp only [obind_some, table.run (d := ()) trivial, schedule.add, schedule.F, table.add, table.F, mix.L0.run hp, mix.L0.add, mix.L0.F, unwl_wl, toSt_l]
  have hp1 : mix.L1.Pre (s.l, 0, List.replicate 8 0, (rounds (sched b) s 64).l) := ⟨rfl, 0, by omega, rfl⟩
  simp only [mix.L1.run hp1, obind_some, mix.L1.add, mix.L1.F, mix.add, mix.F, toSt_l]
  unfold mixS
  generalize rounds (sched b) s 64 = v
  obtain ⟨a1, b1, c1, d1, f1, g1, h1, i1⟩ := v
  simp only [St.l, from_, List.mapIdx_cons, List.mapIdx_nil, Int.toNat_zero, Nat.not_lt_zero, if_false, Nat.zero_add, Nat.reduceAdd]
  simp only [nth, List.getD_cons_zero, List.getD_cons_succ, iadd_u32]

theorem mix.inj : ∀ d d', mix.st d = mix.st d' → d = d' := fun (h, b) (h', b') hEq => by
  have e0 : h = h' := d_inj (t := (.arr 8 (.int .u32))) (congrArg (fun s : List AVal × List Ent => (s.1.getD 0 .undef)) hEq)
  have e1 : b = b' := d_inj (t := (.slice (.int .u8))) (congrArg (fun s : List AVal × List Ent => (s.1.getD 1 .undef)) hEq)
  rw [e0, e1]
noncomputable def mix.E : Entry := Entry.of [some (.arr 8 (.int .u32)), some (.slice (.int .u8))] mix.st mix.Pre (fun d => mix.add d (mix.F d)) mix.out
noncomputable def mix.call : mix.D → Option mix.X := fun d => mix.E.run (mix.st d).1 (mix.st d).2
theorem mix.run {d : mix.D} (h : mix.Pre d) : mix.call d = some (mix.add d (mix.F d)) := Entry.of_run mix.inj h
theorem mix.does : Does Try.prog 55 mix.E := Does.of (by kernel_rfl) (show Sound _ mix.G from Sound.cons schedule.does (Sound.cons table.does (Sound.cons rotl32.does (Sound.nil _)))) (by kernel_rfl) (by kernel_rfl) (by kernel_rfl) (LOk.fn 2 (by kernel_rfl) (And.intro (LDo.of (by kernel_rfl) mix.L0.ok) (And.intro (LDo.of (by kernel_rfl) mix.L1.ok) trivial))) mix.ok

end Go.Ab
