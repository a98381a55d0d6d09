/-
  Made by a program of mine (wip/gen), and by hand.
-/
import Derived.Test.YtglpcfdjdabdnaaRa1
namespace Go.Ab
open Go.Proofs
set_option maxRecDepth 100000
set_option linter.unusedVariables false
set_option linter.unusedSimpArgs false

/-! ### corsned/corsnedref04.words -/
abbrev rwords.L0.D := (List Int) × Nat × Int × (List Int)
def rwords.L0.st : rwords.L0.D → AS := fun (b_2, wL, i, n49) => ⟨([.d (.slice (.int .u8)) b_2, .undef, .undef, .sref (.new 49 0) 0 [] 0 0 wL, .d (.int .i64) i] ++ undN 94 []), [], (nilN 49 ([[.obj 0 false (.vec 87 (.int .u32) n49)]] ++ nilN 49 []))⟩
abbrev rwords.L0.Y0 := Nat × (List Int)  -- wL, n49
abbrev rwords.L0.X0 := Nat × (List Int)
def rwords.L0.ex0 : rwords.L0.X0 → Exit × AS := fun x => (.exit 0, ⟨([.undef, .undef, .undef, .sref (.new 49 0) 0 [] 0 0 x.1] ++ undN 95 []), [], (nilN 49 ([[.obj 0 false (.vec 87 (.int .u32) x.2)]] ++ nilN 49 []))⟩)
abbrev rwords.L0.X := rwords.L0.X0
abbrev rwords.L0.Y := rwords.L0.Y0
def rwords.L0.out : rwords.L0.X → Out (Exit × AS) := fun x => .ok (rwords.L0.ex0 x)
def rwords.L0.add : rwords.L0.D → rwords.L0.Y → rwords.L0.X := fun (b_2, wL, i, n49) y => y
abbrev rwords.L1.D := Nat × Int × (List Int)
def rwords.L1.st : rwords.L1.D → AS := fun (wL_2, i_2, n49_2) => ⟨([.undef, .undef, .undef, .sref (.new 49 0) 0 [] 0 0 wL_2, .undef, .d (.int .i64) i_2] ++ undN 93 []), [], (nilN 49 ([[.obj 0 false (.vec 87 (.int .u32) n49_2)]] ++ nilN 49 []))⟩
abbrev rwords.L1.Y0 := Nat × (List Int)  -- wL, n49
abbrev rwords.L1.X0 := Nat × (List Int)
def rwords.L1.ex0 : rwords.L1.X0 → Exit × AS := fun x => (.exit 2, ⟨([.undef, .undef, .undef, .sref (.new 49 0) 0 [] 0 0 x.1] ++ undN 95 []), [], (nilN 49 ([[.obj 0 false (.vec 87 (.int .u32) x.2)]] ++ nilN 49 []))⟩)
abbrev rwords.L1.X := rwords.L1.X0
abbrev rwords.L1.Y := rwords.L1.Y0
def rwords.L1.out : rwords.L1.X → Out (Exit × AS) := fun x => .ok (rwords.L1.ex0 x)
def rwords.L1.add : rwords.L1.D → rwords.L1.Y → rwords.L1.X := fun (wL_2, i_2, n49_2) y => y
abbrev rwords.D := (List Int)
def rwords.st : rwords.D → List AVal × List Ent := fun b => ([.d (.slice (.int .u8)) b], [])
abbrev rwords.Y := (List Int)
abbrev rwords.X := (List Int)
def rwords.out : rwords.X → GRes := fun x => ⟨.d (.slice (.int .u32)) x, [], []⟩
def rwords.add : rwords.D → rwords.Y → rwords.X := fun b y => y


def rwords.L0.Pre : rwords.L0.D → Prop := fun (b, m, i, l) => 64 ≤ b.length ∧ ∃ k : Nat, k ≤ 16 ∧ i = k ∧ k = m ∧ l = wl ((words b).take k)
def rwords.L0.F : rwords.L0.D → rwords.L0.Y := fun (b, m, i, l) => (16, wl (words b))
def rwords.L1.Pre : rwords.L1.D → Prop := fun (m, i, l) => ∃ ws : List W, 16 ≤ ws.length ∧ ws.length ≤ 64 ∧ l = wl ws ∧ m = ws.length ∧ i = (ws.length : Nat)
def rwords.L1.F : rwords.L1.D → rwords.L1.Y := fun (m, i, l) => (64, wl (wsN (unwl l) (64 - l.length)))
def rwords.Pre : rwords.D → Prop := fun b => 64 ≤ b.length
def rwords.F : rwords.D → rwords.Y := fun b => wl (sched b)

noncomputable def rwords.G : Gam := gcons 107 anyArgs rturn.E (gnil)
noncomputable def rwords.L0.E : LEntry := LEntry.of rwords.L0.st rwords.L0.Pre (fun d => rwords.L0.add d (rwords.L0.F d)) rwords.L0.out
noncomputable def rwords.L0.call : rwords.L0.D → Option rwords.L0.X := fun d => rwords.L0.E.run (rwords.L0.st d)
noncomputable def rwords.L1.E : LEntry := LEntry.of rwords.L1.st rwords.L1.Pre (fun d => rwords.L1.add d (rwords.L1.F d)) rwords.L1.out
noncomputable def rwords.L1.call : rwords.L1.D → Option rwords.L1.X := fun d => rwords.L1.E.run (rwords.L1.st d)
noncomputable def rwords.an : Ann := {
  objs := [],
  loops := fun r => bif Nat.beq r 3 then { keep := [0, 3, 4], sites := [49], frz := [], data := [], owns := [⟨3, [], 49, 124⟩] } else bif Nat.beq r 7 then { keep := [3, 5], sites := [49], frz := [], data := [], owns := [⟨3, [], 49, 124⟩] } else { keep := [], sites := [], frz := [], data := [], owns := [] },
  outs := fun r b => bif Nat.beq r 3 then (bif b then { keep := [2], sites := [], frz := [], data := [], owns := [] } else { keep := [3], sites := [49], frz := [], data := [], owns := [] }) else bif Nat.beq r 7 then (bif b then { keep := [2], sites := [], frz := [], data := [], owns := [] } else { keep := [3], sites := [49], frz := [], data := [], owns := [] }) else { keep := [], sites := [], frz := [], data := [], owns := [] },
  sums := fun r => bif Nat.beq r 3 then some rwords.L0.E else bif Nat.beq r 7 then some rwords.L1.E else none,
  owns := [],
  trim := [],
  res := [some (.slice (.int .u32))] }
theorem rwords.L0.inj : ∀ d d', rwords.L0.st d = rwords.L0.st d' → d = d' := fun (b_2, wL, i, n49) (b_2', wL', i', n49') hEq => by
  have e0 : b_2 = b_2' := d_inj (t := (.slice (.int .u8))) (congrArg (fun s : AS => (s.slot 0)) hEq)
  have e1 : wL = wL' := congrArg (fun s : AS => srefLen (s.slot 3)) hEq
  have e2 : i = i' := d_inj (t := (.int .i64)) (congrArg (fun s : AS => (s.slot 4)) hEq)
  have e3 : n49 = n49' := vec_inj (e := 87) (t := (.int .u32)) (congrArg (fun s : AS => (entC (s.ent (.new 49 0)))) hEq)
  rw [e0, e1, e2, e3]
theorem rwords.L0.run {d : rwords.L0.D} (h : rwords.L0.Pre d) : rwords.L0.call d = some (rwords.L0.add d (rwords.L0.F d)) := LEntry.of_run rwords.L0.inj h
theorem rwords.L0.byRounds (μ : rwords.L0.D → Nat) (h : ∀ d, rwords.L0.Pre d → (∃ d', rwords.L0.Pre d' ∧ μ d' < μ d ∧ rwords.L0.add d' (rwords.L0.F d') = rwords.L0.add d (rwords.L0.F d) ∧ ∀ {R : Type} (kn : AS → Option R) (kx : Exit → AS → Option R), lround Try.prog rwords.G rwords.an 0 Try.f105 0 (rwords.L0.st d) kn kx = kn (rwords.L0.st d')) ∨ (∀ {R : Type} (kn : AS → Option R) (kx : Exit → AS → Option R), lround Try.prog rwords.G rwords.an 0 Try.f105 0 (rwords.L0.st d) kn kx = kx (rwords.L0.ex0 (rwords.L0.add d (rwords.L0.F d))).1 (rwords.L0.ex0 (rwords.L0.add d (rwords.L0.F d))).2)) : ∀ d, rwords.L0.Pre d → ∃ n, lrun Try.prog rwords.G rwords.an 0 Try.f105 0 n (rwords.L0.st d) (fun e s => some (e, s)) = (rwords.L0.out (rwords.L0.add d (rwords.L0.F d))).eval := lrun_one (F := fun d => rwords.L0.add d (rwords.L0.F d)) μ h
theorem rwords.L0.step {R : Type} (b_2 : (List Int)) (wL : Nat) (i : Int) (n49 : (List Int)) (kn : AS → Option R) (kx : Exit → AS → Option R) : lround Try.prog rwords.G rwords.an 0 Try.f105 0 (rwords.L0.st (b_2, wL, i, n49)) kn kx =
  sel ((ilt i (16 : Int))) (
   sel (inb (imul .i64 (4 : Int) i) (((List.length b_2) : Nat) : Int)) (
   sel (inb (iadd .i64 (imul .i64 (4 : Int) i) (1 : Int)) (((List.length b_2) : Nat) : Int)) (
   sel (inb (iadd .i64 (imul .i64 (4 : Int) i) (2 : Int)) (((List.length b_2) : Nat) : Int)) (
   sel (inb (iadd .i64 (imul .i64 (4 : Int) i) (3 : Int)) (((List.length b_2) : Nat) : Int)) (
   sel (decide (wL ≤ (List.length n49))) (
   sel (roomA (wL + 1) 4) (
   kn (rwords.L0.st (b_2, (wL + 1), (iadd .i64 i (1 : Int)), ((List.take wL n49) ++ [(bitop .or .u32 (bitop .or .u32 (bitop .or .u32 (ishl .u32 (icv .u32 (nth (.int .u8) b_2 (Int.toNat (imul .i64 (4 : Int) i)))) (24 : Int)) (ishl .u32 (icv .u32 (nth (.int .u8) b_2 (Int.toNat (iadd .i64 (imul .i64 (4 : Int) i) (1 : Int))))) (16 : Int))) (ishl .u32 (icv .u32 (nth (.int .u8) b_2 (Int.toNat (iadd .i64 (imul .i64 (4 : Int) i) (2 : Int))))) (8 : Int))) (icv .u32 (nth (.int .u8) b_2 (Int.toNat (iadd .i64 (imul .i64 (4 : Int) i) (3 : Int))))))])))) none) none) none) none) none) none) (
   kx (rwords.L0.ex0 (wL, n49)).1 (rwords.L0.ex0 (wL, n49)).2) := by kernel_rfl
theorem rwords.L1.inj : ∀ d d', rwords.L1.st d = rwords.L1.st d' → d = d' := fun (wL_2, i_2, n49_2) (wL_2', i_2', n49_2') hEq => by
  have e0 : wL_2 = wL_2' := congrArg (fun s : AS => srefLen (s.slot 3)) hEq
  have e1 : i_2 = i_2' := d_inj (t := (.int .i64)) (congrArg (fun s : AS => (s.slot 5)) hEq)
  have e2 : n49_2 = n49_2' := vec_inj (e := 87) (t := (.int .u32)) (congrArg (fun s : AS => (entC (s.ent (.new 49 0)))) hEq)
  rw [e0, e1, e2]
theorem rwords.L1.run {d : rwords.L1.D} (h : rwords.L1.Pre d) : rwords.L1.call d = some (rwords.L1.add d (rwords.L1.F d)) := LEntry.of_run rwords.L1.inj h
theorem rwords.L1.byRounds (μ : rwords.L1.D → Nat) (h : ∀ d, rwords.L1.Pre d → (∃ d', rwords.L1.Pre d' ∧ μ d' < μ d ∧ rwords.L1.add d' (rwords.L1.F d') = rwords.L1.add d (rwords.L1.F d) ∧ ∀ {R : Type} (kn : AS → Option R) (kx : Exit → AS → Option R), lround Try.prog rwords.G rwords.an 0 Try.f105 1 (rwords.L1.st d) kn kx = kn (rwords.L1.st d')) ∨ (∀ {R : Type} (kn : AS → Option R) (kx : Exit → AS → Option R), lround Try.prog rwords.G rwords.an 0 Try.f105 1 (rwords.L1.st d) kn kx = kx (rwords.L1.ex0 (rwords.L1.add d (rwords.L1.F d))).1 (rwords.L1.ex0 (rwords.L1.add d (rwords.L1.F d))).2)) : ∀ d, rwords.L1.Pre d → ∃ n, lrun Try.prog rwords.G rwords.an 0 Try.f105 1 n (rwords.L1.st d) (fun e s => some (e, s)) = (rwords.L1.out (rwords.L1.add d (rwords.L1.F d))).eval := lrun_one (F := fun d => rwords.L1.add d (rwords.L1.F d)) μ h
theorem rwords.L1.step {R : Type} (wL_2 : Nat) (i_2 : Int) (n49_2 : (List Int)) (kn : AS → Option R) (kx : Exit → AS → Option R) : lround Try.prog rwords.G rwords.an 0 Try.f105 1 (rwords.L1.st (wL_2, i_2, n49_2)) kn kx =
  sel ((ilt i_2 (64 : Int))) (
   sel (inb (isub .i64 i_2 (15 : Int)) ((wL_2 : Nat) : Int)) (
   sel (decide ((0 + (Int.toNat (isub .i64 i_2 (15 : Int)))) < (List.length n49_2))) (
   sel (decide ((((0 + (Int.toNat (isub .i64 i_2 (15 : Int)))) * 1) + 0) = (0 + ((Int.toNat (isub .i64 i_2 (15 : Int))) * 1)))) (
   sel (inb (isub .i64 i_2 (2 : Int)) ((wL_2 : Nat) : Int)) (
   sel (decide ((0 + (Int.toNat (isub .i64 i_2 (2 : Int)))) < (List.length n49_2))) (
   sel (decide ((((0 + (Int.toNat (isub .i64 i_2 (2 : Int)))) * 1) + 0) = (0 + ((Int.toNat (isub .i64 i_2 (2 : Int))) * 1)))) (
   obind (rturn.call ((nth (.int .u32) n49_2 (0 + (Int.toNat (isub .i64 i_2 (15 : Int))))), (7 : Int))) fun x1 =>
   obind (rturn.call ((nth (.int .u32) n49_2 (0 + (Int.toNat (isub .i64 i_2 (15 : Int))))), (18 : Int))) fun x2 =>
   obind (rturn.call ((nth (.int .u32) n49_2 (0 + (Int.toNat (isub .i64 i_2 (2 : Int))))), (17 : Int))) fun x3 =>
   obind (rturn.call ((nth (.int .u32) n49_2 (0 + (Int.toNat (isub .i64 i_2 (2 : Int))))), (19 : Int))) fun x4 =>
   sel (inb (isub .i64 i_2 (16 : Int)) ((wL_2 : Nat) : Int)) (
   sel (decide ((0 + (Int.toNat (isub .i64 i_2 (16 : Int)))) < (List.length n49_2))) (
   sel (decide ((((0 + (Int.toNat (isub .i64 i_2 (16 : Int)))) * 1) + 0) = (0 + ((Int.toNat (isub .i64 i_2 (16 : Int))) * 1)))) (
   sel (inb (isub .i64 i_2 (7 : Int)) ((wL_2 : Nat) : Int)) (
   sel (decide ((0 + (Int.toNat (isub .i64 i_2 (7 : Int)))) < (List.length n49_2))) (
   sel (decide ((((0 + (Int.toNat (isub .i64 i_2 (7 : Int)))) * 1) + 0) = (0 + ((Int.toNat (isub .i64 i_2 (7 : Int))) * 1)))) (
   sel (decide (wL_2 ≤ (List.length n49_2))) (
   sel (roomA (wL_2 + 1) 4) (
   kn (rwords.L1.st ((wL_2 + 1), (iadd .i64 i_2 (1 : Int)), ((List.take wL_2 n49_2) ++ [(iadd .u32 (iadd .u32 (iadd .u32 (nth (.int .u32) n49_2 (0 + (Int.toNat (isub .i64 i_2 (16 : Int))))) (bitop .xor .u32 (bitop .xor .u32 x1 x2) (ishr .u32 (nth (.int .u32) n49_2 (0 + (Int.toNat (isub .i64 i_2 (15 : Int))))) (3 : Int)))) (nth (.int .u32) n49_2 (0 + (Int.toNat (isub .i64 i_2 (7 : Int)))))) (bitop .xor .u32 (bitop .xor .u32 x3 x4) (ishr .u32 (nth (.int .u32) n49_2 (0 + (Int.toNat (isub .i64 i_2 (2 : Int))))) (10 : Int))))])))) none) none) none) none) none) none) none) none) none) none) none) none) none) none) (
   kx (rwords.L1.ex0 (wL_2, n49_2)).1 (rwords.L1.ex0 (wL_2, n49_2)).2) := by kernel_rfl
theorem rwords.eq {R : Type} (b : (List Int)) (k : GRes → Option R) : arun Try.prog rwords.G rwords.an 0 Try.f105 (rwords.st b).1 (rwords.st b).2 k =
  obind (rwords.L0.call (b, 0, (0 : Int), ([] : List Int))) fun x1 =>
  obind (rwords.L1.call (x1.1, (16 : Int), x1.2)) fun x10 =>
  sel (decide (0 = 0 ∧ (0 + x10.1) ≤ (List.length x10.2))) (
  k (rwords.out (cut x10.2 0 x10.1))) none := by kernel_rfl


theorem wl_length (ws : List W) : (wl ws).length = ws.length := by simp [wl]
theorem wsN_ext (m : List W) : ∀ n, wsN (ext m) n = wsN m (n + 1)
  | 0 => rfl
  | n + 1 => by rw [wsN, wsN_ext m n]; rfl
theorem be_get (b : List Int) (k : Nat) (h : 4 * k + 3 < b.length) : be b k = be4 (nth (.int .u8) b (4 * k)) (nth (.int .u8) b (4 * k + 1)) (nth (.int .u8) b (4 * k + 2)) (nth (.int .u8) b (4 * k + 3)) := rfl
theorem rwords.L0.ok : ∀ d, rwords.L0.Pre d → ∃ n, lrun Try.prog rwords.G rwords.an 0 Try.f105 0 n (rwords.L0.st d) (fun e s => some (e, s)) = (rwords.L0.out (rwords.L0.add d (rwords.L0.F d))).eval := by
  refine rwords.L0.byRounds (fun (b, m, i, l) => 16 - m) ?_
  rintro ⟨b, m, i, l⟩ ⟨hb, k, hk, rfl, rfl, rfl⟩
  have hb : 64 ≤ b.length := hb
  have hl : (wl ((words b).take k)).length = k := by rw [wl_length, List.length_take, words_length]; omega
  by_cases h : k < 16
  · left
    refine ⟨(b, k + 1, ((k + 1 : Nat) : Int), wl ((words b).take (k + 1))), ⟨hb, k + 1, by omega, rfl, rfl, rfl⟩, by simp only; omega, rfl, fun kn kx => ?_⟩
    rw [rwords.L0.step]
    simp (disch := omega) only [↓N.lt, ↓N.le, ↓N.gt, ↓N.ge, ↓N.eq, ↓N.ne, ↓N.ib, ↓N.ic, ↓N.nn, ↓N.nz, ↓N.dc, ↓N.rm, ↓N.an, ↓N.or, ↓N.no, ↓if_pos, ↓if_neg, ↓sel_true, ↓sel_false, ↓obind_some, if_pos, if_neg, obind_some, N.aNN, N.aNL, N.aLN, N.sNN, N.sNL, N.sLN, N.mNN, N.mNL, N.mLN, N.qNN, N.qNL, N.rNN, N.rNL, N.cN, N.cL, N.tL, Int.toNat_natCast, if_true, if_false, and_self, true_and, and_true, hl, List.take_of_length_le (Nat.le_of_eq hl)]
    rw [List.take_succ_eq_append_getElem (by rw [words_length]; exact h)]
    simp only [icv_u32, ishl_u32, bitop_u32, wl, List.map_append, List.map_cons, List.map_nil]
    have e : (words b)[k]'(by rw [words_length]; exact h) = be b k := by simp [words]
    rw [e, be_get b k (by omega)]
    rfl
  · right
    obtain rfl : k = 16 := by omega
    intro R kn kx
    rw [rwords.L0.step]
    simp (disch := omega) only [↓N.lt, ↓N.le, ↓N.gt, ↓N.ge, ↓N.eq, ↓N.ne, ↓N.ib, ↓N.ic, ↓N.nn, ↓N.nz, ↓N.dc, ↓N.rm, ↓N.an, ↓N.or, ↓N.no, ↓if_pos, ↓if_neg, ↓sel_true, ↓sel_false, ↓obind_some, if_pos, if_neg, obind_some, N.aNN, N.aNL, N.aLN, N.sNN, N.sNL, N.sLN, N.mNN, N.mNL, N.mLN, N.qNN, N.qNL, N.rNN, N.rNL, N.cN, N.cL, N.tL, Int.toNat_natCast, if_true, if_false, and_self, true_and, and_true, rwords.L0.add, rwords.L0.F]
    rw [List.take_of_length_le (by rw [words_length]; omega)]
theorem rwords.L1.ok : ∀ d, rwords.L1.Pre d → ∃ n, lrun Try.prog rwords.G rwords.an 0 Try.f105 1 n (rwords.L1.st d) (fun e s => some (e, s)) = (rwords.L1.out (rwords.L1.add d (rwords.L1.F d))).eval := by
  refine rwords.L1.byRounds (fun (m, i, l) => 64 - m) ?_
  rintro ⟨m, i, l⟩ ⟨ws, h1, h2, rfl, rfl, rfl⟩
  have hl := wl_length ws
  by_cases h : ws.length < 64
  · left
    refine ⟨(ws.length + 1, ((ws.length + 1 : Nat) : Int), wl (ext ws)), ⟨ext ws, by rw [ext_length]; omega, by rw [ext_length]; omega, rfl, by rw [ext_length], by rw [ext_length]⟩, by simp only; omega, ?_, fun kn kx => ?_⟩
    · simp only [rwords.L1.add, rwords.L1.F, unwl_wl, wl_length, ext_length]
      rw [wsN_ext, show 64 - (ws.length + 1) + 1 = 64 - ws.length by omega]
    · rw [rwords.L1.step]
      simp (disch := omega) only [↓N.lt, ↓N.le, ↓N.gt, ↓N.ge, ↓N.eq, ↓N.ne, ↓N.ib, ↓N.ic, ↓N.nn, ↓N.nz, ↓N.dc, ↓N.rm, ↓N.an, ↓N.or, ↓N.no, ↓if_pos, ↓if_neg, ↓sel_true, ↓sel_false, ↓obind_some, if_pos, if_neg, obind_some, N.aNN, N.aNL, N.aLN, N.sNN, N.sNL, N.sLN, N.mNN, N.mNL, N.mLN, N.qNN, N.qNL, N.rNN, N.rNL, N.cN, N.cL, N.tL, Int.toNat_natCast, if_true, if_false, and_self, true_and, and_true, hl, Nat.zero_add, Nat.mul_one, Nat.add_zero, wl_get ws _ (by omega : ws.length - 15 < ws.length), wl_get ws _ (by omega : ws.length - 2 < ws.length), wl_get ws _ (by omega : ws.length - 16 < ws.length), wl_get ws _ (by omega : ws.length - 7 < ws.length), rturn.at, bitop_u32, ishr_u32, iadd_u32, List.take_of_length_le (Nat.le_of_eq hl)]
      unfold ext wl
      rw [List.map_append]
      rfl
  · right
    have h64 : ws.length = 64 := by omega
    intro R kn kx
    rw [rwords.L1.step]
    simp (disch := omega) only [↓N.lt, ↓N.le, ↓N.gt, ↓N.ge, ↓N.eq, ↓N.ne, ↓N.ib, ↓N.ic, ↓N.nn, ↓N.nz, ↓N.dc, ↓N.rm, ↓N.an, ↓N.or, ↓N.no, ↓if_pos, ↓if_neg, ↓sel_true, ↓sel_false, ↓obind_some, if_pos, if_neg, obind_some, N.aNN, N.aNL, N.aLN, N.sNN, N.sNL, N.sLN, N.mNN, N.mNL, N.mLN, N.qNN, N.qNL, N.rNN, N.rNL, N.cN, N.cL, N.tL, Int.toNat_natCast, if_true, if_false, and_self, true_and, and_true, rwords.L1.add, rwords.L1.F, hl, h64, unwl_wl, Nat.sub_self]
    rfl
theorem rwords.ok : ∀ d, rwords.Pre d → arun Try.prog rwords.G rwords.an 0 Try.f105 (rwords.st d).1 (rwords.st d).2 some = some (rwords.out (rwords.add d (rwords.F d))) := by
  intro b hb
  have p1 : rwords.L0.Pre (b, 0, 0, []) := ⟨hb, 0, by omega, rfl, rfl, rfl⟩
  have p2 : rwords.L1.Pre (16, 16, wl (words b)) := ⟨words b, by rw [words_length]; omega, by rw [words_length]; omega, rfl, by rw [words_length], by rw [words_length]; rfl⟩
  have hs : (sched b).length = 64 := by unfold sched; rw [wsN_length, words_length]
  rw [rwords.eq]
  simp (disch := omega) only [↓N.lt, ↓N.le, ↓N.gt, ↓N.ge, ↓N.eq, ↓N.ne, ↓N.ib, ↓N.ic, ↓N.nn, ↓N.nz, ↓N.dc, ↓N.rm, ↓N.an, ↓N.or, ↓N.no, ↓if_pos, ↓if_neg, ↓sel_true, ↓sel_false, ↓obind_some, if_pos, if_neg, obind_some, N.aNN, N.aNL, N.aLN, N.sNN, N.sNL, N.sLN, N.mNN, N.mNL, N.mLN, N.qNN, N.qNL, N.rNN, N.rNL, N.cN, N.cL, N.tL, Int.toNat_natCast, if_true, if_false, and_self, true_and, and_true, rwords.L0.run p1, rwords.L0.add, rwords.L0.F, rwords.L1.run p2, rwords.L1.add, rwords.L1.F, unwl_wl, wl_length, words_length, Nat.zero_add, Nat.reduceSub]
  have e : wsN (words b) 48 = sched b := rfl
  rw [e, hs, if_pos (Nat.le_refl _)]
  unfold cut
  rw [List.drop_zero, List.take_of_length_le (by rw [wl_length]; omega)]
  simp only [rwords.add, rwords.F]

theorem rwords.inj : ∀ d d', rwords.st d = rwords.st d' → d = d' := fun b b' hEq => by
  have e0 : b = b' := d_inj (t := (.slice (.int .u8))) (congrArg (fun s : List AVal × List Ent => (s.1.getD 0 .undef)) hEq)
  rw [e0]
noncomputable def rwords.E : Entry := Entry.of [some (.slice (.int .u8))] rwords.st rwords.Pre (fun d => rwords.add d (rwords.F d)) rwords.out
noncomputable def rwords.call : rwords.D → Option rwords.X := fun d => rwords.E.run (rwords.st d).1 (rwords.st d).2
theorem rwords.run {d : rwords.D} (h : rwords.Pre d) : rwords.call d = some (rwords.add d (rwords.F d)) := Entry.of_run rwords.inj h
theorem rwords.does : Does Try.prog 105 rwords.E := Does.of (by kernel_rfl) (show Sound _ rwords.G from Sound.cons rturn.does (Sound.nil _)) (by kernel_rfl) (by kernel_rfl) (by kernel_rfl) (LOk.fn 2 (by kernel_rfl) (And.intro (LDo.of (by kernel_rfl) rwords.L0.ok) (And.intro (LDo.of (by kernel_rfl) rwords.L1.ok) trivial))) rwords.ok

end Go.Ab
