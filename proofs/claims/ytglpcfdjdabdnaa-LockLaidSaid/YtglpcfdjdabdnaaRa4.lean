/-
  Made by a program of mine (wip/gen), and by hand.
-/
import Derived.Test.YtglpcfdjdabdnaaRa3
namespace Go.Ab
open Go.Proofs
set_option maxRecDepth 100000
set_option linter.unusedVariables false
set_option linter.unusedSimpArgs false

/-! ### corsned/corsnedref04.Sum -/
abbrev rsum.L0.D := (List Int) × (List Int) × Int × (List Int)
def rsum.L0.st : rsum.L0.D → AS := fun (p, h, i, n2) => ⟨([.undef, .undef, .ptr (.new 2 0) 0 [] 0, .d (.slice (.int .u8)) p, .d (.slice (.int .u32)) h, .d (.int .i64) i] ++ undN 36 []), [], ([[], [], [.obj 0 false (.d (.arr 32 (.int .u8)) n2)]] ++ nilN 39 [])⟩
abbrev rsum.L0.Y0 := (List Int)  -- h
abbrev rsum.L0.X0 := ((List Int)) × ((List Int))
def rsum.L0.ex0 : rsum.L0.X0 → Exit × AS := fun x => (.exit 0, ⟨([.undef, .undef, .ptr (.new 2 0) 0 [] 0, .undef, .d (.slice (.int .u32)) x.2] ++ undN 37 []), [], ([[], [], [.obj 0 false (.d (.arr 32 (.int .u8)) x.1)]] ++ nilN 39 [])⟩)
abbrev rsum.L0.X := rsum.L0.X0
abbrev rsum.L0.Y := rsum.L0.Y0
def rsum.L0.out : rsum.L0.X → Out (Exit × AS) := fun x => .ok (rsum.L0.ex0 x)
def rsum.L0.add : rsum.L0.D → rsum.L0.Y → rsum.L0.X := fun (p, h, i, n2) y => (n2, y)
abbrev rsum.L1.D := (List Int) × Int × (List Int) × (List Int)
def rsum.L1.st : rsum.L1.D → AS := fun (h_2, i_2, n2_2, n6) => ⟨([.undef, .undef, .ptr (.new 2 0) 0 [] 0, .undef, .d (.slice (.int .u32)) h_2, .undef, .ptr (.new 6 0) 0 [] 0, .d (.int .i64) i_2] ++ undN 34 []), [], ([[], [], [.obj 0 false (.d (.arr 32 (.int .u8)) n2_2)], [], [], [], [.obj 0 false (.d (.arr 32 (.int .u8)) n6)]] ++ nilN 35 [])⟩
abbrev rsum.L1.Y0 := (List Int)  -- n6
abbrev rsum.L1.X0 := ((List Int)) × ((List Int))
def rsum.L1.ex0 : rsum.L1.X0 → Exit × AS := fun x => (.exit 2, ⟨([.undef, .undef, .ptr (.new 2 0) 0 [] 0, .undef, .undef, .undef, .ptr (.new 6 0) 0 [] 0] ++ undN 35 []), [], ([[], [], [.obj 0 false (.d (.arr 32 (.int .u8)) x.1)], [], [], [], [.obj 0 false (.d (.arr 32 (.int .u8)) x.2)]] ++ nilN 35 [])⟩)
abbrev rsum.L1.X := rsum.L1.X0
abbrev rsum.L1.Y := rsum.L1.Y0
def rsum.L1.out : rsum.L1.X → Out (Exit × AS) := fun x => .ok (rsum.L1.ex0 x)
def rsum.L1.add : rsum.L1.D → rsum.L1.Y → rsum.L1.X := fun (h_2, i_2, n2_2, n6) y => (n2_2, y)
abbrev rsum.D := (List Int)
def rsum.st : rsum.D → List AVal × List Ent := fun b => ([.d (.slice (.int .u8)) b], [])
abbrev rsum.Y := (List Int)
abbrev rsum.X := (List Int)
def rsum.out : rsum.X → GRes := fun x => ⟨.d (.arr 32 (.int .u8)) x, [], []⟩
def rsum.add : rsum.D → rsum.Y → rsum.X := fun b y => y


def rsum.L0.Pre : rsum.L0.D → Prop := fun (p, h, i, n2) => p.length % 64 = 0 ∧ p.length ≤ 140737488355328 ∧ ∃ (s : St) (k : Nat), h = s.l ∧ i = ((64 * k : Nat) : Int) ∧ 64 * k ≤ p.length
def rsum.L0.F : rsum.L0.D → rsum.L0.Y := fun (p, h, i, n2) => (blocks (toSt h) (p.drop i.toNat)).l
def rsum.L1.Pre : rsum.L1.D → Prop := fun (h, i, n2, l) => h.length = 8 ∧ l.length = 32 ∧ ∃ k : Nat, k ≤ 32 ∧ i = k
def rsum.L1.F : rsum.L1.D → rsum.L1.Y := fun (h, i, n2, l) => from_ (bytAt h) i.toNat l
def rsum.Pre : rsum.D → Prop := fun b => b.length ≤ 140737488350000
def rsum.F : rsum.D → rsum.Y := fun b => sha b

noncomputable def rsum.G : Gam := gcons 101 anyArgs rpadded.E (gcons 102 anyArgs rfirsts.E (gcons 103 anyArgs rblock.E (gnil)))
noncomputable def rsum.L0.E : LEntry := LEntry.of rsum.L0.st rsum.L0.Pre (fun d => rsum.L0.add d (rsum.L0.F d)) rsum.L0.out
noncomputable def rsum.L0.call : rsum.L0.D → Option rsum.L0.X := fun d => rsum.L0.E.run (rsum.L0.st d)
noncomputable def rsum.L1.E : LEntry := LEntry.of rsum.L1.st rsum.L1.Pre (fun d => rsum.L1.add d (rsum.L1.F d)) rsum.L1.out
noncomputable def rsum.L1.call : rsum.L1.D → Option rsum.L1.X := fun d => rsum.L1.E.run (rsum.L1.st d)
noncomputable def rsum.an : Ann := {
  objs := [],
  loops := fun r => bif Nat.beq r 4 then { keep := [2, 3, 4, 5], sites := [2], frz := [], data := [], owns := [] } else bif Nat.beq r 9 then { keep := [2, 4, 6, 7], sites := [2, 6], frz := [], data := [], owns := [] } else { keep := [], sites := [], frz := [], data := [], owns := [] },
  outs := fun r b => bif Nat.beq r 4 then (bif b then { keep := [2], sites := [], frz := [], data := [], owns := [] } else { keep := [2, 4], sites := [2], frz := [], data := [], owns := [] }) else bif Nat.beq r 9 then (bif b then { keep := [2], sites := [], frz := [], data := [], owns := [] } else { keep := [2, 6], sites := [2, 6], frz := [], data := [], owns := [] }) else { keep := [], sites := [], frz := [], data := [], owns := [] },
  sums := fun r => bif Nat.beq r 4 then some rsum.L0.E else bif Nat.beq r 9 then some rsum.L1.E else none,
  owns := [],
  trim := [],
  res := [] }
theorem rsum.L0.inj : ∀ d d', rsum.L0.st d = rsum.L0.st d' → d = d' := fun (p, h, i, n2) (p', h', i', n2') hEq => by
  have e0 : p = p' := d_inj (t := (.slice (.int .u8))) (congrArg (fun s : AS => (s.slot 3)) hEq)
  have e1 : h = h' := d_inj (t := (.slice (.int .u32))) (congrArg (fun s : AS => (s.slot 4)) hEq)
  have e2 : i = i' := d_inj (t := (.int .i64)) (congrArg (fun s : AS => (s.slot 5)) hEq)
  have e3 : n2 = n2' := d_inj (t := (.arr 32 (.int .u8))) (congrArg (fun s : AS => (entC (s.ent (.new 2 0)))) hEq)
  rw [e0, e1, e2, e3]
theorem rsum.L0.run {d : rsum.L0.D} (h : rsum.L0.Pre d) : rsum.L0.call d = some (rsum.L0.add d (rsum.L0.F d)) := LEntry.of_run rsum.L0.inj h
theorem rsum.L0.byRounds (μ : rsum.L0.D → Nat) (h : ∀ d, rsum.L0.Pre d → (∃ d', rsum.L0.Pre d' ∧ μ d' < μ d ∧ rsum.L0.add d' (rsum.L0.F d') = rsum.L0.add d (rsum.L0.F d) ∧ ∀ {R : Type} (kn : AS → Option R) (kx : Exit → AS → Option R), lround Try.prog rsum.G rsum.an 0 Try.f99 0 (rsum.L0.st d) kn kx = kn (rsum.L0.st d')) ∨ (∀ {R : Type} (kn : AS → Option R) (kx : Exit → AS → Option R), lround Try.prog rsum.G rsum.an 0 Try.f99 0 (rsum.L0.st d) kn kx = kx (rsum.L0.ex0 (rsum.L0.add d (rsum.L0.F d))).1 (rsum.L0.ex0 (rsum.L0.add d (rsum.L0.F d))).2)) : ∀ d, rsum.L0.Pre d → ∃ n, lrun Try.prog rsum.G rsum.an 0 Try.f99 0 n (rsum.L0.st d) (fun e s => some (e, s)) = (rsum.L0.out (rsum.L0.add d (rsum.L0.F d))).eval := lrun_one (F := fun d => rsum.L0.add d (rsum.L0.F d)) μ h
theorem rsum.L0.step {R : Type} (p : (List Int)) (h : (List Int)) (i : Int) (n2 : (List Int)) (kn : AS → Option R) (kx : Exit → AS → Option R) : lround Try.prog rsum.G rsum.an 0 Try.f99 0 (rsum.L0.st (p, h, i, n2)) kn kx =
  sel ((ilt i (((List.length p) : Nat) : Int))) (
   sel (inc (iadd .i64 i (64 : Int)) (((List.length p) : Nat) : Int)) (
   sel (inc i (((Int.toNat (iadd .i64 i (64 : Int))) : Nat) : Int)) (
   obind (rblock.call (h, (cut p (Int.toNat i) ((Int.toNat (iadd .i64 i (64 : Int))) - (Int.toNat i))))) fun x1 =>
   kn (rsum.L0.st (p, x1, (iadd .i64 i (64 : Int)), n2))) none) none) (
   kx (rsum.L0.ex0 (n2, h)).1 (rsum.L0.ex0 (n2, h)).2) := by kernel_rfl
theorem rsum.L1.inj : ∀ d d', rsum.L1.st d = rsum.L1.st d' → d = d' := fun (h_2, i_2, n2_2, n6) (h_2', i_2', n2_2', n6') hEq => by
  have e0 : h_2 = h_2' := d_inj (t := (.slice (.int .u32))) (congrArg (fun s : AS => (s.slot 4)) hEq)
  have e1 : i_2 = i_2' := d_inj (t := (.int .i64)) (congrArg (fun s : AS => (s.slot 7)) hEq)
  have e2 : n2_2 = n2_2' := d_inj (t := (.arr 32 (.int .u8))) (congrArg (fun s : AS => (entC (s.ent (.new 2 0)))) hEq)
  have e3 : n6 = n6' := d_inj (t := (.arr 32 (.int .u8))) (congrArg (fun s : AS => (entC (s.ent (.new 6 0)))) hEq)
  rw [e0, e1, e2, e3]
theorem rsum.L1.run {d : rsum.L1.D} (h : rsum.L1.Pre d) : rsum.L1.call d = some (rsum.L1.add d (rsum.L1.F d)) := LEntry.of_run rsum.L1.inj h
theorem rsum.L1.byRounds (μ : rsum.L1.D → Nat) (h : ∀ d, rsum.L1.Pre d → (∃ d', rsum.L1.Pre d' ∧ μ d' < μ d ∧ rsum.L1.add d' (rsum.L1.F d') = rsum.L1.add d (rsum.L1.F d) ∧ ∀ {R : Type} (kn : AS → Option R) (kx : Exit → AS → Option R), lround Try.prog rsum.G rsum.an 0 Try.f99 1 (rsum.L1.st d) kn kx = kn (rsum.L1.st d')) ∨ (∀ {R : Type} (kn : AS → Option R) (kx : Exit → AS → Option R), lround Try.prog rsum.G rsum.an 0 Try.f99 1 (rsum.L1.st d) kn kx = kx (rsum.L1.ex0 (rsum.L1.add d (rsum.L1.F d))).1 (rsum.L1.ex0 (rsum.L1.add d (rsum.L1.F d))).2)) : ∀ d, rsum.L1.Pre d → ∃ n, lrun Try.prog rsum.G rsum.an 0 Try.f99 1 n (rsum.L1.st d) (fun e s => some (e, s)) = (rsum.L1.out (rsum.L1.add d (rsum.L1.F d))).eval := lrun_one (F := fun d => rsum.L1.add d (rsum.L1.F d)) μ h
theorem rsum.L1.step {R : Type} (h_2 : (List Int)) (i_2 : Int) (n2_2 : (List Int)) (n6 : (List Int)) (kn : AS → Option R) (kx : Exit → AS → Option R) : lround Try.prog rsum.G rsum.an 0 Try.f99 1 (rsum.L1.st (h_2, i_2, n2_2, n6)) kn kx =
  sel ((ilt i_2 (32 : Int))) (
   sel (inb (iquo .i64 i_2 (4 : Int)) (((List.length h_2) : Nat) : Int)) (
   sel (nonneg (isub .i64 (24 : Int) (imul .i64 (8 : Int) (irem i_2 (4 : Int))))) (
   sel (inb i_2 (32 : Int)) (
   sel (decide ((Int.toNat i_2) < (List.length n6))) (
   sel (decide ((((Int.toNat i_2) * 1) + 0) = (0 + ((Int.toNat i_2) * 1)))) (
   sel (decide ((Int.toNat i_2) < (List.length n6))) (
   kn (rsum.L1.st (h_2, (iadd .i64 i_2 (1 : Int)), n2_2, (List.set n6 (Int.toNat i_2) (icv .u8 (ishr .u32 (nth (.int .u32) h_2 (Int.toNat (iquo .i64 i_2 (4 : Int)))) (isub .i64 (24 : Int) (imul .i64 (8 : Int) (irem i_2 (4 : Int)))))))))) none) none) none) none) none) none) (
   kx (rsum.L1.ex0 (n2_2, n6)).1 (rsum.L1.ex0 (n2_2, n6)).2) := by kernel_rfl
theorem rsum.eq {R : Type} (b : (List Int)) (k : GRes → Option R) : arun Try.prog rsum.G rsum.an 0 Try.f99 (rsum.st b).1 (rsum.st b).2 k =
  obind (rpadded.call b) fun x1 =>
  obind (rfirsts.call ()) fun x2 =>
  obind (rsum.L0.call (x1, x2, (0 : Int), (List.replicate 32 (0 : Int)))) fun x4 =>
  obind (rsum.L1.call (x4.2, (0 : Int), x4.1, (List.replicate 32 (0 : Int)))) fun x5 =>
  k (rsum.out x5.2) := by kernel_rfl


theorem rsum.L0.ok : ∀ d, rsum.L0.Pre d → ∃ n, lrun Try.prog rsum.G rsum.an 0 Try.f99 0 n (rsum.L0.st d) (fun e s => some (e, s)) = (rsum.L0.out (rsum.L0.add d (rsum.L0.F d))).eval := by
  refine rsum.L0.byRounds (fun (p, h, i, n2) => p.length - i.toNat) ?_
  rintro ⟨p, h, i, n2⟩ ⟨hm, hb, s, k, rfl, rfl, hk⟩
  have hm : p.length % 64 = 0 := hm
  have hb : p.length ≤ 140737488355328 := hb
  have hk : 64 * k ≤ p.length := hk
  by_cases hlt : 64 * k < p.length
  · left
    have e1 : cut p (64 * k) (64 * k + 64 - 64 * k) = (p.drop (64 * k)).take 64 := by unfold cut; rw [show 64 * k + 64 - 64 * k = 64 by omega]
    have e2 : (p.drop (64 * k)).drop 64 = p.drop (64 * (k + 1)) := by rw [List.drop_drop]; congr 1
    have e3 : (64 * (k + 1) : Nat) = 64 * k + 64 := by omega
    have p1 : rblock.Pre (s.l, (p.drop (64 * k)).take 64) := ⟨⟨s, rfl⟩, by simp; omega⟩
    refine ⟨(p, (mixS s ((p.drop (64 * k)).take 64)).l, ((64 * (k + 1) : Nat) : Int), n2), ⟨hm, hb, _, k + 1, rfl, rfl, by omega⟩, by simp only [Int.toNat_natCast]; omega, ?_, fun kn kx => ?_⟩
    · simp only [rsum.L0.add, rsum.L0.F, toSt_l, Int.toNat_natCast]
      rw [blocks_step s (p.drop (64 * k)) (by simp; omega), e2]
    · rw [rsum.L0.step]
      simp (disch := omega) only [↓N.lt, ↓N.le, ↓N.gt, ↓N.ge, ↓N.eq, ↓N.ne, ↓N.ib, ↓N.ic, ↓N.nn, ↓N.nz, ↓N.dc, ↓N.rm, ↓N.an, ↓N.or, ↓N.no, ↓if_pos, ↓if_neg, ↓sel_true, ↓sel_false, ↓obind_some, if_pos, if_neg, obind_some, N.aNN, N.aNL, N.aLN, N.sNN, N.sNL, N.sLN, N.mNN, N.mNL, N.mLN, N.qNN, N.qNL, N.rNN, N.rNL, N.cN, N.cL, N.tL, Int.toNat_natCast, if_true, if_false, and_self, true_and, and_true, e1, rblock.run p1, rblock.add, rblock.F, toSt_l, e3]
  · right
    intro R kn kx
    rw [rsum.L0.step]
    simp (disch := omega) only [↓N.lt, ↓N.le, ↓N.gt, ↓N.ge, ↓N.eq, ↓N.ne, ↓N.ib, ↓N.ic, ↓N.nn, ↓N.nz, ↓N.dc, ↓N.rm, ↓N.an, ↓N.or, ↓N.no, ↓if_pos, ↓if_neg, ↓sel_true, ↓sel_false, ↓obind_some, if_pos, if_neg, obind_some, N.aNN, N.aNL, N.aLN, N.sNN, N.sNL, N.sLN, N.mNN, N.mNL, N.mLN, N.qNN, N.qNL, N.rNN, N.rNL, N.cN, N.cL, N.tL, Int.toNat_natCast, if_true, if_false, and_self, true_and, and_true, rsum.L0.add, rsum.L0.F, toSt_l]
    rw [blocks_end s _ (by simp; omega)]
theorem rsum.L1.ok : ∀ d, rsum.L1.Pre d → ∃ n, lrun Try.prog rsum.G rsum.an 0 Try.f99 1 n (rsum.L1.st d) (fun e s => some (e, s)) = (rsum.L1.out (rsum.L1.add d (rsum.L1.F d))).eval := by
  refine rsum.L1.byRounds (fun (h, i, n2, l) => 32 - i.toNat) ?_
  rintro ⟨h, i, n2, l⟩ ⟨h8, hl, k, hk, rfl⟩
  have hl : l.length = 32 := hl
  have h8 : h.length = 8 := h8
  by_cases hlt : k < 32
  · left
    refine ⟨(h, ((k + 1 : Nat) : Int), n2, l.set k (bytAt h k l[k])), ⟨h8, by simpa using hl, k + 1, by omega, rfl⟩, by simp only [Int.toNat_natCast]; omega, ?_, fun kn kx => ?_⟩
    · simp only [rsum.L1.add, rsum.L1.F, Int.toNat_natCast]
      rw [from_step (bytAt h) l k (by omega)]
    · rw [rsum.L1.step]
      simp (disch := omega) only [↓N.lt, ↓N.le, ↓N.gt, ↓N.ge, ↓N.eq, ↓N.ne, ↓N.ib, ↓N.ic, ↓N.nn, ↓N.nz, ↓N.dc, ↓N.rm, ↓N.an, ↓N.or, ↓N.no, ↓if_pos, ↓if_neg, ↓sel_true, ↓sel_false, ↓obind_some, if_pos, if_neg, obind_some, N.aNN, N.aNL, N.aLN, N.sNN, N.sNL, N.sLN, N.mNN, N.mNL, N.mLN, N.qNN, N.qNL, N.rNN, N.rNL, N.cN, N.cL, N.tL, Int.toNat_natCast, if_true, if_false, and_self, true_and, and_true, hl, h8, Nat.mul_one, Nat.add_zero, Nat.zero_add, bytAt]
  · right
    obtain rfl : k = 32 := by omega
    intro R kn kx
    rw [rsum.L1.step]
    simp (disch := omega) only [↓N.lt, ↓N.le, ↓N.gt, ↓N.ge, ↓N.eq, ↓N.ne, ↓N.ib, ↓N.ic, ↓N.nn, ↓N.nz, ↓N.dc, ↓N.rm, ↓N.an, ↓N.or, ↓N.no, ↓if_pos, ↓if_neg, ↓sel_true, ↓sel_false, ↓obind_some, if_pos, if_neg, obind_some, N.aNN, N.aNL, N.aLN, N.sNN, N.sNL, N.sLN, N.mNN, N.mNL, N.mLN, N.qNN, N.qNL, N.rNN, N.rNL, N.cN, N.cL, N.tL, Int.toNat_natCast, if_true, if_false, and_self, true_and, and_true, rsum.L1.add, rsum.L1.F]
    rw [from_end _ _ _ (by omega)]
theorem pad_length (b : List Int) : (pad b).length % 64 = 0 ∧ (pad b).length ≤ b.length + 73 := by
  unfold pad
  simp only [List.length_append, List.length_cons, List.length_replicate, be8_length, padn]
  omega
theorem rsum.ok : ∀ d, rsum.Pre d → arun Try.prog rsum.G rsum.an 0 Try.f99 (rsum.st d).1 (rsum.st d).2 some = some (rsum.out (rsum.add d (rsum.F d))) := by
  intro b hb
  have hb : b.length ≤ 140737488350000 := hb
  have p1 : rpadded.Pre b := hb
  obtain ⟨h1, h2⟩ := pad_length b
  have p2 : rsum.L0.Pre (pad b, first0.l, 0, List.replicate 32 0) := ⟨h1, by omega, first0, 0, rfl, rfl, by omega⟩
  have p3 : rsum.L1.Pre ((blocks first0 (pad b)).l, 0, List.replicate 32 0, List.replicate 32 0) := ⟨rfl, rfl, 0, by omega, rfl⟩
  rw [rsum.eq]
  simp (disch := omega) only [↓N.lt, ↓N.le, ↓N.gt, ↓N.ge, ↓N.eq, ↓N.ne, ↓N.ib, ↓N.ic, ↓N.nn, ↓N.nz, ↓N.dc, ↓N.rm, ↓N.an, ↓N.or, ↓N.no, ↓if_pos, ↓if_neg, ↓sel_true, ↓sel_false, ↓obind_some, if_pos, if_neg, obind_some, N.aNN, N.aNL, N.aLN, N.sNN, N.sNL, N.sLN, N.mNN, N.mNL, N.mLN, N.qNN, N.qNL, N.rNN, N.rNL, N.cN, N.cL, N.tL, Int.toNat_natCast, if_true, if_false, and_self, true_and, and_true, rpadded.run p1, rpadded.add, rpadded.F, rfirsts.run (d := ()) trivial, rfirsts.add, rfirsts.F, rsum.L0.run p2, rsum.L0.add, rsum.L0.F, toSt_l, Int.toNat_zero, List.drop_zero, rsum.L1.run p3, rsum.L1.add, rsum.L1.F, outb_eq]
  rfl

theorem rsum.inj : ∀ d d', rsum.st d = rsum.st d' → d = d' := fun b b' hEq => by
  have e0 : b = b' := d_inj (t := (.slice (.int .u8))) (congrArg (fun s : List AVal × List Ent => (s.1.getD 0 .undef)) hEq)
  rw [e0]
noncomputable def rsum.E : Entry := Entry.of [some (.slice (.int .u8))] rsum.st rsum.Pre (fun d => rsum.add d (rsum.F d)) rsum.out
noncomputable def rsum.call : rsum.D → Option rsum.X := fun d => rsum.E.run (rsum.st d).1 (rsum.st d).2
theorem rsum.run {d : rsum.D} (h : rsum.Pre d) : rsum.call d = some (rsum.add d (rsum.F d)) := Entry.of_run rsum.inj h
theorem rsum.does : Does Try.prog 99 rsum.E := Does.of (by kernel_rfl) (show Sound _ rsum.G from Sound.cons rpadded.does (Sound.cons rfirsts.does (Sound.cons rblock.does (Sound.nil _)))) (by kernel_rfl) (by kernel_rfl) (by kernel_rfl) (LOk.fn 2 (by kernel_rfl) (And.intro (LDo.of (by kernel_rfl) rsum.L0.ok) (And.intro (LDo.of (by kernel_rfl) rsum.L1.ok) trivial))) rsum.ok

/-! ### corsned/corsnedref04.Long -/
abbrev rlong.D := Int
def rlong.st : rlong.D → List AVal × List Ent := fun n => ([.d (.int .u64) n], [])
abbrev rlong.Y := Nat × (List Int)
abbrev rlong.X := Nat × (List Int)
def rlong.out : rlong.X → GRes := fun x => ⟨.sref (.new 0 0) 0 [] 0 0 x.1, [], [.obj 0 false (.vec 5 (.int .u8) x.2)]⟩
def rlong.add : rlong.D → rlong.Y → rlong.X := fun n y => y


def rlong.Pre : rlong.D → Prop := fun n => 0 ≤ n ∧ n < 18446744073709551616
def rlong.F : rlong.D → rlong.Y := fun n => (8, be8 n)

noncomputable def rlong.G : Gam := gnil
noncomputable def rlong.an : Ann := {
  objs := [],
  loops := fun r => bif Nat.beq r 3 then { keep := [0, 3, 4], sites := [15], frz := [], data := [], owns := [] } else { keep := [], sites := [], frz := [], data := [], owns := [] },
  outs := fun r b => bif Nat.beq r 3 then (bif b then { keep := [2], sites := [15], frz := [], data := [], owns := [] } else { keep := [3], sites := [15], frz := [], data := [], owns := [] }) else { keep := [], sites := [], frz := [], data := [], owns := [] },
  sums := fun r => none,
  owns := [⟨2, [], 15, 52⟩],
  trim := [],
  res := [] }
theorem rlong.eq {R : Type} (n : Int) (k : GRes → Option R) : arun Try.prog rlong.G rlong.an 10 Try.f98 (rlong.st n).1 (rlong.st n).2 k =
  k (rlong.out (8, [(icv .u8 (ishr .u64 n (56 : Int))), (icv .u8 (ishr .u64 n (48 : Int))), (icv .u8 (ishr .u64 n (40 : Int))), (icv .u8 (ishr .u64 n (32 : Int))), (icv .u8 (ishr .u64 n (24 : Int))), (icv .u8 (ishr .u64 n (16 : Int))), (icv .u8 (ishr .u64 n (8 : Int))), (icv .u8 (ishr .u64 n (0 : Int)))])) := by kernel_rfl


theorem rlong.ok : ∀ d, rlong.Pre d → arun Try.prog rlong.G rlong.an 10 Try.f98 (rlong.st d).1 (rlong.st d).2 some = some (rlong.out (rlong.add d (rlong.F d))) := by
  intro n _
  have e : ∀ k : Nat, k ≤ 64 → icv .u8 (ishr .u64 n (k : Int)) = n / 2 ^ k % 256 := fun k hk => u64_byte n k hk
  rw [rlong.eq]
  have e56 : icv .u8 (ishr .u64 n 56) = n / 2 ^ 56 % 256 := e 56 (by omega)
  have e48 : icv .u8 (ishr .u64 n 48) = n / 2 ^ 48 % 256 := e 48 (by omega)
  have e40 : icv .u8 (ishr .u64 n 40) = n / 2 ^ 40 % 256 := e 40 (by omega)
  have e32 : icv .u8 (ishr .u64 n 32) = n / 2 ^ 32 % 256 := e 32 (by omega)
  have e24 : icv .u8 (ishr .u64 n 24) = n / 2 ^ 24 % 256 := e 24 (by omega)
  have e16 : icv .u8 (ishr .u64 n 16) = n / 2 ^ 16 % 256 := e 16 (by omega)
  have e8 : icv .u8 (ishr .u64 n 8) = n / 2 ^ 8 % 256 := e 8 (by omega)
  have e0 := e 0 (by omega)
  rw [e56, e48, e40, e32, e24, e16, e8]
  have e0 : icv .u8 (ishr .u64 n 0) = n % 256 := by rw [show (0 : Int) = ((0 : Nat) : Int) from rfl, e0]; simp
  rw [e0]
  rfl

theorem rlong.inj : ∀ d d', rlong.st d = rlong.st d' → d = d' := fun n n' hEq => by
  have e0 : n = n' := d_inj (t := (.int .u64)) (congrArg (fun s : List AVal × List Ent => (s.1.getD 0 .undef)) hEq)
  rw [e0]
noncomputable def rlong.E : Entry := Entry.of [some (.int .u64)] rlong.st rlong.Pre (fun d => rlong.add d (rlong.F d)) rlong.out
noncomputable def rlong.call : rlong.D → Option rlong.X := fun d => rlong.E.run (rlong.st d).1 (rlong.st d).2
theorem rlong.run {d : rlong.D} (h : rlong.Pre d) : rlong.call d = some (rlong.add d (rlong.F d)) := Entry.of_run rlong.inj h
theorem rlong.does : Does Try.prog 98 rlong.E := Does.of (by kernel_rfl) (show Sound _ rlong.G from Sound.nil _) (by kernel_rfl) (by kernel_rfl) (by kernel_rfl) (LOk.fn 1 (by kernel_rfl) (And.intro (LDo.none (by kernel_rfl)) trivial)) rlong.ok

/-! ### corsned/corsnedref04.Tag -/
abbrev rtag.L0.D := (List (List Int)) × Nat × Int × (List Int) × (List Int)
def rtag.L0.st : rtag.L0.D → AS := fun (parts_2, bL, i, n4, n11) => ⟨([.undef, .d (.slice (.slice (.int .u8))) parts_2, .undef, .undef, .ptr (.new 4 0) 0 [] 0, .sref (.new 11 0) 0 [] 0 0 bL, .d (.int .i64) i] ++ undN 32 []), [], (nilN 4 ([[.obj 0 false (.d (.arr 32 (.int .u8)) n4)]] ++ nilN 6 ([[.obj 0 false (.vec 5 (.int .u8) n11)]] ++ nilN 27 [])))⟩
abbrev rtag.L0.Y0 := Nat × (List Int)  -- bL, n11
abbrev rtag.L0.X0 := ((List Int)) × (Nat × (List Int))
def rtag.L0.ex0 : rtag.L0.X0 → Exit × AS := fun x => (.exit 0, ⟨(undN 4 ([.ptr (.new 4 0) 0 [] 0, .sref (.new 11 0) 0 [] 0 0 x.2.1] ++ undN 33 [])), [], (nilN 4 ([[.obj 0 false (.d (.arr 32 (.int .u8)) x.1)]] ++ nilN 6 ([[.obj 0 false (.vec 5 (.int .u8) x.2.2)]] ++ nilN 27 [])))⟩)
abbrev rtag.L0.X := rtag.L0.X0
abbrev rtag.L0.Y := rtag.L0.Y0
def rtag.L0.out : rtag.L0.X → Out (Exit × AS) := fun x => .ok (rtag.L0.ex0 x)
def rtag.L0.add : rtag.L0.D → rtag.L0.Y → rtag.L0.X := fun (parts_2, bL, i, n4, n11) y => (n4, y)
abbrev rtag.D := ByteArray × (List (List Int))
def rtag.st : rtag.D → List AVal × List Ent := fun (name, parts) => ([.d .str name, .d (.slice (.slice (.int .u8))) parts], [])
abbrev rtag.Y := (List Int)
abbrev rtag.X := (List Int)
def rtag.out : rtag.X → GRes := fun x => ⟨.d (.arr 32 (.int .u8)) x, [], []⟩
def rtag.add : rtag.D → rtag.Y → rtag.X := fun (name, parts) y => y


def rtag.L0.Pre : rtag.L0.D → Prop := fun (ps, m, i, n4, l) => m = l.length ∧ ∃ k : Nat, k ≤ ps.length ∧ ps.length ≤ 140737488350000 ∧ i = k ∧ l.length + (tagp (ps.drop k)).length ≤ 140737488350000
def rtag.L0.F : rtag.L0.D → rtag.L0.Y := fun (ps, m, i, n4, l) => (l.length + (tagp (ps.drop i.toNat)).length, l ++ tagp (ps.drop i.toNat))
def rtag.Pre : rtag.D → Prop := fun (name, ps) => (tagb (bytesOfStr name) ps).length ≤ 140737488350000
def rtag.F : rtag.D → rtag.Y := fun (name, ps) => tag (bytesOfStr name) ps

noncomputable def rtag.G : Gam := gcons 98 anyArgs rlong.E (gcons 99 anyArgs rsum.E (gnil))
noncomputable def rtag.L0.E : LEntry := LEntry.of rtag.L0.st rtag.L0.Pre (fun d => rtag.L0.add d (rtag.L0.F d)) rtag.L0.out
noncomputable def rtag.L0.call : rtag.L0.D → Option rtag.L0.X := fun d => rtag.L0.E.run (rtag.L0.st d)
noncomputable def rtag.an : Ann := {
  objs := [],
  loops := fun r => bif Nat.beq r 3 then { keep := [1, 4, 5, 6], sites := [4, 11], frz := [], data := [], owns := [⟨5, [], 11, 52⟩] } else { keep := [], sites := [], frz := [], data := [], owns := [] },
  outs := fun r b => bif Nat.beq r 3 then (bif b then { keep := [4], sites := [], frz := [], data := [], owns := [] } else { keep := [4, 5], sites := [4, 11], frz := [], data := [], owns := [] }) else { keep := [], sites := [], frz := [], data := [], owns := [] },
  sums := fun r => bif Nat.beq r 3 then some rtag.L0.E else none,
  owns := [],
  trim := [],
  res := [] }
theorem rtag.L0.inj : ∀ d d', rtag.L0.st d = rtag.L0.st d' → d = d' := fun (parts_2, bL, i, n4, n11) (parts_2', bL', i', n4', n11') hEq => by
  have e0 : parts_2 = parts_2' := d_inj (t := (.slice (.slice (.int .u8)))) (congrArg (fun s : AS => (s.slot 1)) hEq)
  have e1 : bL = bL' := congrArg (fun s : AS => srefLen (s.slot 5)) hEq
  have e2 : i = i' := d_inj (t := (.int .i64)) (congrArg (fun s : AS => (s.slot 6)) hEq)
  have e3 : n4 = n4' := d_inj (t := (.arr 32 (.int .u8))) (congrArg (fun s : AS => (entC (s.ent (.new 4 0)))) hEq)
  have e4 : n11 = n11' := vec_inj (e := 5) (t := (.int .u8)) (congrArg (fun s : AS => (entC (s.ent (.new 11 0)))) hEq)
  rw [e0, e1, e2, e3, e4]
theorem rtag.L0.run {d : rtag.L0.D} (h : rtag.L0.Pre d) : rtag.L0.call d = some (rtag.L0.add d (rtag.L0.F d)) := LEntry.of_run rtag.L0.inj h
theorem rtag.L0.byRounds (μ : rtag.L0.D → Nat) (h : ∀ d, rtag.L0.Pre d → (∃ d', rtag.L0.Pre d' ∧ μ d' < μ d ∧ rtag.L0.add d' (rtag.L0.F d') = rtag.L0.add d (rtag.L0.F d) ∧ ∀ {R : Type} (kn : AS → Option R) (kx : Exit → AS → Option R), lround Try.prog rtag.G rtag.an 0 Try.f91 0 (rtag.L0.st d) kn kx = kn (rtag.L0.st d')) ∨ (∀ {R : Type} (kn : AS → Option R) (kx : Exit → AS → Option R), lround Try.prog rtag.G rtag.an 0 Try.f91 0 (rtag.L0.st d) kn kx = kx (rtag.L0.ex0 (rtag.L0.add d (rtag.L0.F d))).1 (rtag.L0.ex0 (rtag.L0.add d (rtag.L0.F d))).2)) : ∀ d, rtag.L0.Pre d → ∃ n, lrun Try.prog rtag.G rtag.an 0 Try.f91 0 n (rtag.L0.st d) (fun e s => some (e, s)) = (rtag.L0.out (rtag.L0.add d (rtag.L0.F d))).eval := lrun_one (F := fun d => rtag.L0.add d (rtag.L0.F d)) μ h
theorem rtag.L0.step {R : Type} (parts_2 : (List (List Int))) (bL : Nat) (i : Int) (n4 : (List Int)) (n11 : (List Int)) (kn : AS → Option R) (kx : Exit → AS → Option R) : lround Try.prog rtag.G rtag.an 0 Try.f91 0 (rtag.L0.st (parts_2, bL, i, n4, n11)) kn kx =
  sel ((ilt i (((List.length parts_2) : Nat) : Int))) (
   sel (inb i (((List.length parts_2) : Nat) : Int)) (
   obind (rlong.call (icv .u64 (((List.length (nth (.slice (.int .u8)) parts_2 (Int.toNat i))) : Nat) : Int))) fun x1 =>
   sel (decide (0 = 0 ∧ (0 + x1.1) ≤ (List.length x1.2))) (
   sel (decide (bL ≤ (List.length n11))) (
   sel (roomA (bL + (List.length (cut x1.2 0 x1.1))) 1) (
   sel (inb i (((List.length parts_2) : Nat) : Int)) (
   sel (decide ((bL + (List.length (cut x1.2 0 x1.1))) ≤ (List.length ((List.take bL n11) ++ (cut x1.2 0 x1.1))))) (
   sel (roomA ((bL + (List.length (cut x1.2 0 x1.1))) + (List.length (nth (.slice (.int .u8)) parts_2 (Int.toNat i)))) 1) (
   kn (rtag.L0.st (parts_2, ((bL + (List.length (cut x1.2 0 x1.1))) + (List.length (nth (.slice (.int .u8)) parts_2 (Int.toNat i)))), (iadd .i64 i (1 : Int)), n4, ((List.take (bL + (List.length (cut x1.2 0 x1.1))) ((List.take bL n11) ++ (cut x1.2 0 x1.1))) ++ (nth (.slice (.int .u8)) parts_2 (Int.toNat i)))))) none) none) none) none) none) none) none) (
   kx (rtag.L0.ex0 (n4, (bL, n11))).1 (rtag.L0.ex0 (n4, (bL, n11))).2) := by kernel_rfl
theorem rtag.eq {R : Type} (name : ByteArray) (parts : (List (List Int))) (k : GRes → Option R) : arun Try.prog rtag.G rtag.an 0 Try.f91 (rtag.st (name, parts)).1 (rtag.st (name, parts)).2 k =
  obind (rlong.call (icv .u64 (((ByteArray.size name) : Nat) : Int))) fun x1 =>
  sel (decide (x1.1 ≤ (List.length x1.2))) (
  sel (roomA (x1.1 + (List.length (bytesOfStr name))) 1) (
  obind (rtag.L0.call (parts, (x1.1 + (List.length (bytesOfStr name))), (0 : Int), (List.replicate 32 (0 : Int)), ((List.take x1.1 x1.2) ++ (bytesOfStr name)))) fun x4 =>
  sel (decide (0 = 0 ∧ (0 + x4.2.1) ≤ (List.length x4.2.2))) (
  obind (rsum.call (cut x4.2.2 0 x4.2.1)) fun x5 =>
  k (rtag.out x5)) none) none) none := by kernel_rfl


theorem u64_nat {n : Nat} (h : n < 18446744073709551616) : icv .u64 ((n : Nat) : Int) = n := by rw [icv_u64, vw_ofInt]; omega
theorem rlong.at {n : Nat} (h : n < 18446744073709551616) : rlong.call (n : Int) = some (8, be8 (n : Int)) := rlong.run (d := (n : Int)) (show 0 ≤ (n : Int) ∧ (n : Int) < 18446744073709551616 from ⟨by omega, by omega⟩)
theorem cut0 {l : List Int} {n : Nat} (h : l.length = n) : cut l 0 n = l := by unfold cut; rw [List.drop_zero, List.take_of_length_le (by omega)]
theorem rtag.L0.ok : ∀ d, rtag.L0.Pre d → ∃ n, lrun Try.prog rtag.G rtag.an 0 Try.f91 0 n (rtag.L0.st d) (fun e s => some (e, s)) = (rtag.L0.out (rtag.L0.add d (rtag.L0.F d))).eval := by
  refine rtag.L0.byRounds (fun (ps, m, i, n4, l) => ps.length - i.toNat) ?_
  rintro ⟨ps, m, i, n4, l⟩ ⟨rfl, k, hk, hpl, rfl, hl⟩
  have hk : k ≤ ps.length := hk
  have hpl : ps.length ≤ 140737488350000 := hpl
  have hl : l.length + (tagp (ps.drop k)).length ≤ 140737488350000 := hl
  by_cases h : k < ps.length
  · left
    have ht := tagp_drop ps k h
    have hlen : (tagp (ps.drop k)).length = 8 + ps[k].length + (tagp (ps.drop (k + 1))).length := by rw [ht]; simp only [List.length_append, be8_length]
    have hn : nth (.slice (.int .u8)) ps k = ps[k] := nth_lt (t := .slice (.int .u8)) h
    have hlb : (l ++ be8 (ps[k].length : Int)).length = l.length + 8 := by simp [be8_length]
    refine ⟨(ps, (l ++ be8 ps[k].length ++ ps[k]).length, ((k + 1 : Nat) : Int), n4, l ++ be8 ps[k].length ++ ps[k]), ⟨rfl, k + 1, by omega, hpl, rfl, ?_⟩, by simp only [Int.toNat_natCast]; omega, ?_, fun kn kx => ?_⟩
    · simp only [List.length_append, be8_length]; omega
    · simp only [rtag.L0.add, rtag.L0.F, Int.toNat_natCast, ht, List.append_assoc]
      simp only [List.length_append, be8_length, Nat.add_assoc]
    · have c8 : cut (be8 (ps[k].length : Int)) 0 8 = be8 (ps[k].length : Int) := cut0 (be8_length _)
      have h64 : ps[k].length < 18446744073709551616 := by omega
      rw [rtag.L0.step]
      simp (disch := omega) only [↓N.lt, ↓N.le, ↓N.gt, ↓N.ge, ↓N.eq, ↓N.ne, ↓N.ib, ↓N.ic, ↓N.nn, ↓N.nz, ↓N.dc, ↓N.rm, ↓N.an, ↓N.or, ↓N.no, ↓if_pos, ↓if_neg, ↓sel_true, ↓sel_false, ↓obind_some, if_pos, if_neg, obind_some, N.aNN, N.aNL, N.aLN, N.sNN, N.sNL, N.sLN, N.mNN, N.mNL, N.mLN, N.qNN, N.qNL, N.rNN, N.rNL, N.cN, N.cL, N.tL, Int.toNat_natCast, if_true, if_false, and_self, true_and, and_true, hn, u64_nat h64, rlong.at h64, be8_length, c8, List.take_length, hlb, Nat.zero_add, Nat.le_refl, and_self, if_true]
      rw [List.take_of_length_le (by rw [hlb]; omega)]
      simp only [List.length_append, be8_length, Nat.add_assoc]
  · right
    obtain rfl : k = ps.length := by omega
    intro R kn kx
    rw [rtag.L0.step]
    simp (disch := omega) only [↓N.lt, ↓N.le, ↓N.gt, ↓N.ge, ↓N.eq, ↓N.ne, ↓N.ib, ↓N.ic, ↓N.nn, ↓N.nz, ↓N.dc, ↓N.rm, ↓N.an, ↓N.or, ↓N.no, ↓if_pos, ↓if_neg, ↓sel_true, ↓sel_false, ↓obind_some, if_pos, if_neg, obind_some, N.aNN, N.aNL, N.aLN, N.sNN, N.sNL, N.sLN, N.mNN, N.mNL, N.mLN, N.qNN, N.qNL, N.rNN, N.rNL, N.cN, N.cL, N.tL, Int.toNat_natCast, if_true, if_false, and_self, true_and, and_true, rtag.L0.add, rtag.L0.F, List.drop_length]
    simp [tagp]
theorem rtag.ok : ∀ d, rtag.Pre d → arun Try.prog rtag.G rtag.an 0 Try.f91 (rtag.st d).1 (rtag.st d).2 some = some (rtag.out (rtag.add d (rtag.F d))) := by
  rintro ⟨name, ps⟩ hp
  have hp : (be8 (bytesOfStr name).length ++ bytesOfStr name ++ tagp ps).length ≤ 140737488350000 := hp
  have hl : (be8 (bytesOfStr name).length ++ bytesOfStr name ++ tagp ps).length = 8 + (bytesOfStr name).length + (tagp ps).length := by simp only [List.length_append, be8_length]
  have hpl := tagp_len ps
  have hsz : name.size = (bytesOfStr name).length := by rw [bytesOfStr_length]
  have h64 : (bytesOfStr name).length < 18446744073709551616 := by omega
  have p2 : rtag.L0.Pre (ps, 8 + (bytesOfStr name).length, 0, List.replicate 32 0, be8 ((bytesOfStr name).length : Int) ++ bytesOfStr name) := by
    refine ⟨by simp only [List.length_append, be8_length], 0, Nat.zero_le _, by omega, rfl, ?_⟩
    rw [List.drop_zero]
    simp only [List.length_append, be8_length]
    omega
  rw [rtag.eq, hsz]
  simp (disch := omega) only [↓N.lt, ↓N.le, ↓N.gt, ↓N.ge, ↓N.eq, ↓N.ne, ↓N.ib, ↓N.ic, ↓N.nn, ↓N.nz, ↓N.dc, ↓N.rm, ↓N.an, ↓N.or, ↓N.no, ↓if_pos, ↓if_neg, ↓sel_true, ↓sel_false, ↓obind_some, if_pos, if_neg, obind_some, N.aNN, N.aNL, N.aLN, N.sNN, N.sNL, N.sLN, N.mNN, N.mNL, N.mLN, N.qNN, N.qNL, N.rNN, N.rNL, N.cN, N.cL, N.tL, Int.toNat_natCast, if_true, if_false, and_self, true_and, and_true, u64_nat h64, rlong.at h64, be8_length, List.take_of_length_le (Nat.le_of_eq (be8_length _)), rtag.L0.run p2, rtag.L0.add, rtag.L0.F, Int.toNat_zero, List.drop_zero, Nat.zero_add]
  have hcut : cut (be8 ((bytesOfStr name).length : Int) ++ bytesOfStr name ++ tagp ps) 0 ((be8 ((bytesOfStr name).length : Int) ++ bytesOfStr name).length + (tagp ps).length) = tagb (bytesOfStr name) ps := cut0 (by simp only [List.length_append])
  have p3 : rsum.Pre (tagb (bytesOfStr name) ps) := hp
  rw [if_pos (by simp only [List.length_append]; omega), hcut, rsum.run p3]
  rfl

theorem rtag.inj : ∀ d d', rtag.st d = rtag.st d' → d = d' := fun (name, parts) (name', parts') hEq => by
  have e0 : name = name' := d_inj (t := .str) (congrArg (fun s : List AVal × List Ent => (s.1.getD 0 .undef)) hEq)
  have e1 : parts = parts' := d_inj (t := (.slice (.slice (.int .u8)))) (congrArg (fun s : List AVal × List Ent => (s.1.getD 1 .undef)) hEq)
  rw [e0, e1]
noncomputable def rtag.E : Entry := Entry.of [some .str, some (.slice (.slice (.int .u8)))] rtag.st rtag.Pre (fun d => rtag.add d (rtag.F d)) rtag.out
noncomputable def rtag.call : rtag.D → Option rtag.X := fun d => rtag.E.run (rtag.st d).1 (rtag.st d).2
theorem rtag.run {d : rtag.D} (h : rtag.Pre d) : rtag.call d = some (rtag.add d (rtag.F d)) := Entry.of_run rtag.inj h
theorem rtag.does : Does Try.prog 91 rtag.E := Does.of (by kernel_rfl) (show Sound _ rtag.G from Sound.cons rlong.does (Sound.cons rsum.does (Sound.nil _))) (by kernel_rfl) (by kernel_rfl) (by kernel_rfl) (LOk.fn 1 (by kernel_rfl) (And.intro (LDo.of (by kernel_rfl) rtag.L0.ok) trivial)) rtag.ok

end Go.Ab
