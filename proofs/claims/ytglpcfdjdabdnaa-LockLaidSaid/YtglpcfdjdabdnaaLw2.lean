/-
  Made by a program of mine (wip/gen), and by hand.
-/
import Derived.Test.YtglpcfdjdabdnaaLw1
namespace Go.Ab
open Go.Proofs
set_option maxRecDepth 100000
set_option linter.unusedVariables false
set_option linter.unusedSimpArgs false


/-- A branch's bytes behind others; a lock's bytes. -/
def keysB (o : List Int) (ks : List Int) : List Int := ks.foldl (fun o p => o ++ be8 p) o
def brB (o : List Int) (b : Brn) : List Int := putN (putN (keysB (putN o b.1.length) b.1) b.2.1) b.2.2.1 ++ be8 b.2.2.2.1
def lkB (l : Lk) : List Int := if lkOk l then l.1.foldl brB (putN [] l.1.length) else []
theorem keysB_len : ∀ (ks : List Int) (o : List Int), (keysB o ks).length = o.length + 8 * ks.length
  | [], o => rfl
  | k :: ks, o => by
    show (keysB (o ++ be8 k) ks).length = _
    rw [keysB_len ks, List.length_append, be8_length, List.length_cons]; omega
theorem brB_len (o : List Int) (b : Brn) (h : b.1.length ≤ 12) : (brB o b).length ≤ o.length + 200 := by
  unfold brB
  have h1 := putN_len o b.1.length
  have h2 := keysB_len b.1 (putN o b.1.length)
  have h3 := putN_len (keysB (putN o b.1.length) b.1) b.2.1
  have h4 := putN_len (putN (keysB (putN o b.1.length) b.1) b.2.1) b.2.2.1
  rw [List.length_append, be8_length]; omega
/-- Numbers of 64 bits with a sign. -/
def I64s (n : Int) : Prop := n ≤ 9223372036854775807
def BrI (b : Brn) : Prop := b.1.length ≤ 12 ∧ I64s b.2.1 ∧ I64s b.2.2.1
theorem brOk_i {b : Brn} (h : brOk b = true) : BrI b := by
  unfold brOk htOk at h
  simp only [Bool.and_eq_true, decide_eq_true_eq] at h
  obtain ⟨h1, _, h2, h3, _⟩ := h
  exact ⟨h1, by unfold I64s; omega, by unfold I64s; omega⟩
theorem keysB_drop (o : List Int) (ks : List Int) (k : Nat) (h : k < ks.length) : keysB o (ks.drop k) = keysB (o ++ be8 ks[k]) (ks.drop (k + 1)) := by rw [List.drop_eq_getElem_cons h]; rfl

/-! ### corsned/lock.Bytes -/
abbrev lbytes.L0.D := (List Int) × (List ((List Int) × (Int × (Int × (Int × Unit))))) × Int × Int
def lbytes.L0.st : lbytes.L0.D → AS := fun (outv, t16, t17, t18) => ⟨([.undef, .undef, .undef, .d (.slice (.int .u8)) outv] ++ undN 12 ([.d (.slice (.pair (.slice (.int .u64)) (.pair (.int .i64) (.pair (.int .i64) (.pair (.int .u64) .unit))))) t16, .d (.int .i64) t17, .d (.int .i64) t18] ++ undN 31 [])), [], (List.replicate 50 [])⟩
abbrev lbytes.L0.Y0 := (List Int)  -- out
abbrev lbytes.L0.X0 := (List Int)
def lbytes.L0.ex0 : lbytes.L0.X0 → Exit × AS := fun x => (.exit 0, ⟨([.undef, .undef, .undef, .d (.slice (.int .u8)) x] ++ undN 46 []), [], (List.replicate 50 [])⟩)
abbrev lbytes.L0.X := lbytes.L0.X0
abbrev lbytes.L0.Y := lbytes.L0.Y0
def lbytes.L0.out : lbytes.L0.X → Out (Exit × AS) := fun x => .ok (lbytes.L0.ex0 x)
def lbytes.L0.add : lbytes.L0.D → lbytes.L0.Y → lbytes.L0.X := fun (outv, t16, t17, t18) y => y
abbrev lbytes.L1.D := (List Int) × (List ((List Int) × (Int × (Int × (Int × Unit))))) × Int × Int × (List Int) × Int × Int × ((List Int) × (Int × (Int × (Int × Unit))))
def lbytes.L1.st : lbytes.L1.D → AS := fun (outv_2, t16_2, t17_2, t18_2, t28, t29, t30, n5) => ⟨([.undef, .undef, .undef, .d (.slice (.int .u8)) outv_2, .undef, .ptr (.new 5 0) 0 [] 0] ++ undN 10 ([.d (.slice (.pair (.slice (.int .u64)) (.pair (.int .i64) (.pair (.int .i64) (.pair (.int .u64) .unit))))) t16_2, .d (.int .i64) t17_2, .d (.int .i64) t18_2] ++ undN 9 ([.d (.slice (.int .u64)) t28, .d (.int .i64) t29, .d (.int .i64) t30] ++ undN 19 []))), [], (nilN 5 ([[.obj 0 false (.d (.pair (.slice (.int .u64)) (.pair (.int .i64) (.pair (.int .i64) (.pair (.int .u64) .unit)))) n5)]] ++ nilN 44 []))⟩
abbrev lbytes.L1.Y0 := (List Int)  -- out
abbrev lbytes.L1.X0 := ((List ((List Int) × (Int × (Int × (Int × Unit))))) × Int × Int × ((List Int) × (Int × (Int × (Int × Unit))))) × ((List Int))
def lbytes.L1.ex0 : lbytes.L1.X0 → Exit × AS := fun x => (.exit 2, ⟨([.undef, .undef, .undef, .d (.slice (.int .u8)) x.2, .undef, .ptr (.new 5 0) 0 [] 0] ++ undN 10 ([.d (.slice (.pair (.slice (.int .u64)) (.pair (.int .i64) (.pair (.int .i64) (.pair (.int .u64) .unit))))) x.1.1, .d (.int .i64) x.1.2.1, .d (.int .i64) x.1.2.2.1] ++ undN 31 [])), [], (nilN 5 ([[.obj 0 false (.d (.pair (.slice (.int .u64)) (.pair (.int .i64) (.pair (.int .i64) (.pair (.int .u64) .unit)))) x.1.2.2.2)]] ++ nilN 44 []))⟩)
abbrev lbytes.L1.X := lbytes.L1.X0
abbrev lbytes.L1.Y := lbytes.L1.Y0
def lbytes.L1.out : lbytes.L1.X → Out (Exit × AS) := fun x => .ok (lbytes.L1.ex0 x)
def lbytes.L1.add : lbytes.L1.D → lbytes.L1.Y → lbytes.L1.X := fun (outv_2, t16_2, t17_2, t18_2, t28, t29, t30, n5) y => ((t16_2, t17_2, t18_2, n5), y)
abbrev lbytes.D := ((List ((List Int) × (Int × (Int × (Int × Unit))))) × Unit)
def lbytes.st : lbytes.D → List AVal × List Ent := fun l => ([.d (.pair (.slice (.pair (.slice (.int .u64)) (.pair (.int .i64) (.pair (.int .i64) (.pair (.int .u64) .unit))))) .unit) l], [])
abbrev lbytes.Y := (List Int)
abbrev lbytes.X := (List Int)
def lbytes.out : lbytes.X → GRes := fun x => ⟨.d (.slice (.int .u8)) x, [], []⟩
def lbytes.add : lbytes.D → lbytes.Y → lbytes.X := fun l y => y


def lbytes.L1.Pre : lbytes.L1.D → Prop := fun (o, bs, n, i, ks, m, j, b) => ks.length ≤ 12 ∧ o.length + 8 * ks.length ≤ 80000000 + 8 * j.toNat ∧ m = ks.length ∧ ∃ k : Nat, k ≤ ks.length ∧ j = k
def lbytes.L1.F : lbytes.L1.D → lbytes.L1.Y := fun (o, bs, n, i, ks, m, j, b) => keysB o (ks.drop j.toNat)
def lbytes.L0.Pre : lbytes.L0.D → Prop := fun (o, bs, n, i) => (∀ b ∈ bs, BrI b) ∧ bs.length ≤ 4 ∧ o.length ≤ 1000 + 200 * i.toNat ∧ n = bs.length ∧ ∃ k : Nat, k ≤ bs.length ∧ i = k
def lbytes.L0.F : lbytes.L0.D → lbytes.L0.Y := fun (o, bs, n, i) => (bs.drop i.toNat).foldl brB o
def lbytes.Pre : lbytes.D → Prop := fun l => LkU l ∧ l.1.length ≤ 1000000000
def lbytes.F : lbytes.D → lbytes.Y := fun l => lkB l

noncomputable def lbytes.G : Gam := gcons 14 anyArgs lright.E (gcons 43 anyArgs cput.E (gcons 44 anyArgs cputu.E (gnil)))
noncomputable def lbytes.L0.E : LEntry := LEntry.of lbytes.L0.st lbytes.L0.Pre (fun d => lbytes.L0.add d (lbytes.L0.F d)) lbytes.L0.out
noncomputable def lbytes.L0.call : lbytes.L0.D → Option lbytes.L0.X := fun d => lbytes.L0.E.run (lbytes.L0.st d)
noncomputable def lbytes.L1.E : LEntry := LEntry.of lbytes.L1.st lbytes.L1.Pre (fun d => lbytes.L1.add d (lbytes.L1.F d)) lbytes.L1.out
noncomputable def lbytes.L1.call : lbytes.L1.D → Option lbytes.L1.X := fun d => lbytes.L1.E.run (lbytes.L1.st d)
noncomputable def lbytes.an : Ann := {
  objs := [],
  loops := fun r => bif Nat.beq r 5 then { keep := [3, 16, 17, 18], sites := [], frz := [], data := [], owns := [] } else bif Nat.beq r 9 then { keep := [3, 5, 16, 17, 18, 28, 29, 30], sites := [5], frz := [], data := [], owns := [] } else { keep := [], sites := [], frz := [], data := [], owns := [] },
  outs := fun r b => bif Nat.beq r 5 then (bif b then { keep := [2], sites := [], frz := [], data := [], owns := [] } else { keep := [3], sites := [], frz := [], data := [], owns := [] }) else bif Nat.beq r 9 then (bif b then { keep := [2], sites := [], frz := [], data := [], owns := [] } else { keep := [3, 5, 16, 17, 18], sites := [5], frz := [], data := [], owns := [] }) else { keep := [], sites := [], frz := [], data := [], owns := [] },
  sums := fun r => bif Nat.beq r 5 then some lbytes.L0.E else bif Nat.beq r 9 then some lbytes.L1.E else none,
  owns := [],
  trim := [],
  res := [some (.slice (.int .u8))] }
theorem lbytes.L0.inj : ∀ d d', lbytes.L0.st d = lbytes.L0.st d' → d = d' := fun (outv, t16, t17, t18) (outv', t16', t17', t18') hEq => by
  have e0 : outv = outv' := d_inj (t := (.slice (.int .u8))) (congrArg (fun s : AS => (s.slot 3)) hEq)
  have e1 : t16 = t16' := d_inj (t := (.slice (.pair (.slice (.int .u64)) (.pair (.int .i64) (.pair (.int .i64) (.pair (.int .u64) .unit)))))) (congrArg (fun s : AS => (s.slot 16)) hEq)
  have e2 : t17 = t17' := d_inj (t := (.int .i64)) (congrArg (fun s : AS => (s.slot 17)) hEq)
  have e3 : t18 = t18' := d_inj (t := (.int .i64)) (congrArg (fun s : AS => (s.slot 18)) hEq)
  rw [e0, e1, e2, e3]
theorem lbytes.L0.run {d : lbytes.L0.D} (h : lbytes.L0.Pre d) : lbytes.L0.call d = some (lbytes.L0.add d (lbytes.L0.F d)) := LEntry.of_run lbytes.L0.inj h
theorem lbytes.L0.byRounds (μ : lbytes.L0.D → Nat) (h : ∀ d, lbytes.L0.Pre d → (∃ d', lbytes.L0.Pre d' ∧ μ d' < μ d ∧ lbytes.L0.add d' (lbytes.L0.F d') = lbytes.L0.add d (lbytes.L0.F d) ∧ ∀ {R : Type} (kn : AS → Option R) (kx : Exit → AS → Option R), lround Try.prog lbytes.G lbytes.an 0 Try.f21 0 (lbytes.L0.st d) kn kx = kn (lbytes.L0.st d')) ∨ (∀ {R : Type} (kn : AS → Option R) (kx : Exit → AS → Option R), lround Try.prog lbytes.G lbytes.an 0 Try.f21 0 (lbytes.L0.st d) kn kx = kx (lbytes.L0.ex0 (lbytes.L0.add d (lbytes.L0.F d))).1 (lbytes.L0.ex0 (lbytes.L0.add d (lbytes.L0.F d))).2)) : ∀ d, lbytes.L0.Pre d → ∃ n, lrun Try.prog lbytes.G lbytes.an 0 Try.f21 0 n (lbytes.L0.st d) (fun e s => some (e, s)) = (lbytes.L0.out (lbytes.L0.add d (lbytes.L0.F d))).eval := lrun_one (F := fun d => lbytes.L0.add d (lbytes.L0.F d)) μ h
theorem lbytes.L0.step {R : Type} (outv : (List Int)) (t16 : (List ((List Int) × (Int × (Int × (Int × Unit)))))) (t17 : Int) (t18 : Int) (kn : AS → Option R) (kx : Exit → AS → Option R) : lround Try.prog lbytes.G lbytes.an 0 Try.f21 0 (lbytes.L0.st (outv, t16, t17, t18)) kn kx =
  sel ((ilt t18 t17)) (
   sel (inb t18 (((List.length t16) : Nat) : Int)) (
   obind (cput.call (outv, (((List.length (nth (.pair (.slice (.int .u64)) (.pair (.int .i64) (.pair (.int .i64) (.pair (.int .u64) .unit)))) t16 (Int.toNat t18)).1) : Nat) : Int))) fun x1 =>
   obind (lbytes.L1.call (x1, t16, t17, t18, (nth (.pair (.slice (.int .u64)) (.pair (.int .i64) (.pair (.int .i64) (.pair (.int .u64) .unit)))) t16 (Int.toNat t18)).1, (((List.length (nth (.pair (.slice (.int .u64)) (.pair (.int .i64) (.pair (.int .i64) (.pair (.int .u64) .unit)))) t16 (Int.toNat t18)).1) : Nat) : Int), (0 : Int), (nth (.pair (.slice (.int .u64)) (.pair (.int .i64) (.pair (.int .i64) (.pair (.int .u64) .unit)))) t16 (Int.toNat t18)))) fun x2 =>
   obind (cput.call (x2.2, x2.1.2.2.2.2.1)) fun x3 =>
   obind (cput.call (x3, x2.1.2.2.2.2.2.1)) fun x4 =>
   obind (cputu.call (x4, x2.1.2.2.2.2.2.2.1)) fun x5 =>
   kn (lbytes.L0.st (x5, x2.1.1, x2.1.2.1, (iadd .i64 x2.1.2.2.1 (1 : Int))))) none) (
   kx (lbytes.L0.ex0 outv).1 (lbytes.L0.ex0 outv).2) := by kernel_rfl
theorem lbytes.L1.inj : ∀ d d', lbytes.L1.st d = lbytes.L1.st d' → d = d' := fun (outv_2, t16_2, t17_2, t18_2, t28, t29, t30, n5) (outv_2', t16_2', t17_2', t18_2', t28', t29', t30', n5') hEq => by
  have e0 : outv_2 = outv_2' := d_inj (t := (.slice (.int .u8))) (congrArg (fun s : AS => (s.slot 3)) hEq)
  have e1 : t16_2 = t16_2' := d_inj (t := (.slice (.pair (.slice (.int .u64)) (.pair (.int .i64) (.pair (.int .i64) (.pair (.int .u64) .unit)))))) (congrArg (fun s : AS => (s.slot 16)) hEq)
  have e2 : t17_2 = t17_2' := d_inj (t := (.int .i64)) (congrArg (fun s : AS => (s.slot 17)) hEq)
  have e3 : t18_2 = t18_2' := d_inj (t := (.int .i64)) (congrArg (fun s : AS => (s.slot 18)) hEq)
  have e4 : t28 = t28' := d_inj (t := (.slice (.int .u64))) (congrArg (fun s : AS => (s.slot 28)) hEq)
  have e5 : t29 = t29' := d_inj (t := (.int .i64)) (congrArg (fun s : AS => (s.slot 29)) hEq)
  have e6 : t30 = t30' := d_inj (t := (.int .i64)) (congrArg (fun s : AS => (s.slot 30)) hEq)
  have e7 : n5 = n5' := d_inj (t := (.pair (.slice (.int .u64)) (.pair (.int .i64) (.pair (.int .i64) (.pair (.int .u64) .unit))))) (congrArg (fun s : AS => (entC (s.ent (.new 5 0)))) hEq)
  rw [e0, e1, e2, e3, e4, e5, e6, e7]
theorem lbytes.L1.run {d : lbytes.L1.D} (h : lbytes.L1.Pre d) : lbytes.L1.call d = some (lbytes.L1.add d (lbytes.L1.F d)) := LEntry.of_run lbytes.L1.inj h
theorem lbytes.L1.byRounds (μ : lbytes.L1.D → Nat) (h : ∀ d, lbytes.L1.Pre d → (∃ d', lbytes.L1.Pre d' ∧ μ d' < μ d ∧ lbytes.L1.add d' (lbytes.L1.F d') = lbytes.L1.add d (lbytes.L1.F d) ∧ ∀ {R : Type} (kn : AS → Option R) (kx : Exit → AS → Option R), lround Try.prog lbytes.G lbytes.an 0 Try.f21 1 (lbytes.L1.st d) kn kx = kn (lbytes.L1.st d')) ∨ (∀ {R : Type} (kn : AS → Option R) (kx : Exit → AS → Option R), lround Try.prog lbytes.G lbytes.an 0 Try.f21 1 (lbytes.L1.st d) kn kx = kx (lbytes.L1.ex0 (lbytes.L1.add d (lbytes.L1.F d))).1 (lbytes.L1.ex0 (lbytes.L1.add d (lbytes.L1.F d))).2)) : ∀ d, lbytes.L1.Pre d → ∃ n, lrun Try.prog lbytes.G lbytes.an 0 Try.f21 1 n (lbytes.L1.st d) (fun e s => some (e, s)) = (lbytes.L1.out (lbytes.L1.add d (lbytes.L1.F d))).eval := lrun_one (F := fun d => lbytes.L1.add d (lbytes.L1.F d)) μ h
theorem lbytes.L1.step {R : Type} (outv_2 : (List Int)) (t16_2 : (List ((List Int) × (Int × (Int × (Int × Unit)))))) (t17_2 : Int) (t18_2 : Int) (t28 : (List Int)) (t29 : Int) (t30 : Int) (n5 : ((List Int) × (Int × (Int × (Int × Unit))))) (kn : AS → Option R) (kx : Exit → AS → Option R) : lround Try.prog lbytes.G lbytes.an 0 Try.f21 1 (lbytes.L1.st (outv_2, t16_2, t17_2, t18_2, t28, t29, t30, n5)) kn kx =
  sel ((ilt t30 t29)) (
   sel (inb t30 (((List.length t28) : Nat) : Int)) (
   obind (cputu.call (outv_2, (nth (.int .u64) t28 (Int.toNat t30)))) fun x1 =>
   kn (lbytes.L1.st (x1, t16_2, t17_2, t18_2, t28, t29, (iadd .i64 t30 (1 : Int)), n5))) none) (
   kx (lbytes.L1.ex0 ((t16_2, t17_2, t18_2, n5), outv_2)).1 (lbytes.L1.ex0 ((t16_2, t17_2, t18_2, n5), outv_2)).2) := by kernel_rfl
theorem lbytes.eq {R : Type} (l : ((List ((List Int) × (Int × (Int × (Int × Unit))))) × Unit)) (k : GRes → Option R) : arun Try.prog lbytes.G lbytes.an 0 Try.f21 (lbytes.st l).1 (lbytes.st l).2 k =
  obind (lright.call l) fun x1 =>
  sel ((!x1)) (
   k (lbytes.out ([] : List Int))) (
   obind (cput.call (([] : List Int), (((List.length l.1) : Nat) : Int))) fun x2 =>
   obind (lbytes.L0.call (x2, l.1, (((List.length l.1) : Nat) : Int), (0 : Int))) fun x9 =>
   k (lbytes.out x9)) := by kernel_rfl


theorem lbytes.L1.ok : ∀ d, lbytes.L1.Pre d → ∃ n, lrun Try.prog lbytes.G lbytes.an 0 Try.f21 1 n (lbytes.L1.st d) (fun e s => some (e, s)) = (lbytes.L1.out (lbytes.L1.add d (lbytes.L1.F d))).eval := by
  refine lbytes.L1.byRounds (fun (o, bs, n, i, ks, m, j, b) => ks.length - j.toNat) ?_
  rintro ⟨o, bs, n, i, ks, m, j, b⟩ ⟨hk12, hl, rfl, k, hk, rfl⟩
  have hk12 : ks.length ≤ 12 := hk12
  have hk : k ≤ ks.length := hk
  have hl : o.length + 8 * ks.length ≤ 80000000 + 8 * (k : Int).toNat := hl
  rw [Int.toNat_natCast] at hl
  by_cases h : k < ks.length
  · left
    have n1 : nth (.int .u64) ks k = ks[k] := nth_lt (t := .int .u64) h
    refine ⟨(o ++ be8 ks[k], bs, n, i, ks, ks.length, ((k + 1 : Nat) : Int), b), ⟨hk12, by rw [List.length_append, be8_length, Int.toNat_natCast]; omega, rfl, k + 1, by omega, rfl⟩, by simp only [Int.toNat_natCast]; omega, ?_, fun kn kx => ?_⟩
    · simp only [lbytes.L1.add, lbytes.L1.F, Int.toNat_natCast]
      rw [keysB_drop _ _ _ h]
    · rw [lbytes.L1.step]
      simp (disch := omega) only [↓N.lt, ↓N.le, ↓N.gt, ↓N.ge, ↓N.eq, ↓N.ne, ↓N.ib, ↓N.ic, ↓N.nn, ↓N.nz, ↓N.dc, ↓N.rm, ↓N.an, ↓N.or, ↓N.no, ↓if_pos, ↓if_neg, ↓sel_true, ↓sel_false, ↓obind_some, if_pos, if_neg, obind_some, N.aNN, N.aNL, N.aLN, N.sNN, N.sNL, N.sLN, N.mNN, N.mNL, N.mLN, N.qNN, N.qNL, N.rNN, N.rNL, N.cN, N.cL, N.tL, Int.toNat_natCast, if_true, if_false, and_self, true_and, and_true, n1]
      rw [cputu.run (d := (o, ks[k])) (by show o.length ≤ 90000000; omega)]
      rfl
  · right
    obtain rfl : k = ks.length := by omega
    intro R kn kx
    rw [lbytes.L1.step]
    simp (disch := omega) only [↓N.lt, ↓N.le, ↓N.gt, ↓N.ge, ↓N.eq, ↓N.ne, ↓N.ib, ↓N.ic, ↓N.nn, ↓N.nz, ↓N.dc, ↓N.rm, ↓N.an, ↓N.or, ↓N.no, ↓if_pos, ↓if_neg, ↓sel_true, ↓sel_false, ↓obind_some, if_pos, if_neg, obind_some, N.aNN, N.aNL, N.aLN, N.sNN, N.sNL, N.sLN, N.mNN, N.mNL, N.mLN, N.qNN, N.qNL, N.rNN, N.rNL, N.cN, N.cL, N.tL, Int.toNat_natCast, if_true, if_false, and_self, true_and, and_true, lbytes.L1.add, lbytes.L1.F, List.drop_length]
    rfl
theorem lbytes.L0.ok : ∀ d, lbytes.L0.Pre d → ∃ n, lrun Try.prog lbytes.G lbytes.an 0 Try.f21 0 n (lbytes.L0.st d) (fun e s => some (e, s)) = (lbytes.L0.out (lbytes.L0.add d (lbytes.L0.F d))).eval := by
  refine lbytes.L0.byRounds (fun (o, bs, n, i) => bs.length - i.toNat) ?_
  rintro ⟨o, bs, n, i⟩ ⟨hb, h4, hl, rfl, k, hk, rfl⟩
  have h4 : bs.length ≤ 4 := h4
  have hk : k ≤ bs.length := hk
  have hl : o.length ≤ 1000 + 200 * (k : Int).toNat := hl
  rw [Int.toNat_natCast] at hl
  by_cases h : k < bs.length
  · left
    have hx := hb _ (List.getElem_mem h)
    have n1 : nth (.pair (.slice (.int .u64)) (.pair (.int .i64) (.pair (.int .i64) (.pair (.int .u64) .unit)))) bs k = bs[k] := nth_lt (t := (.pair (.slice (.int .u64)) (.pair (.int .i64) (.pair (.int .i64) (.pair (.int .u64) .unit))))) h
    have e0 := brB_len o bs[k] hx.1
    refine ⟨(brB o bs[k], bs, bs.length, ((k + 1 : Nat) : Int)), ⟨hb, h4, by rw [Int.toNat_natCast]; omega, rfl, k + 1, by omega, rfl⟩, by simp only [Int.toNat_natCast]; omega, ?_, fun kn kx => ?_⟩
    · simp only [lbytes.L0.add, lbytes.L0.F, Int.toNat_natCast]
      rw [List.drop_eq_getElem_cons h]
      rfl
    · rw [lbytes.L0.step, ilt_true (by omega), inb_true (by omega) (by omega), Int.toNat_natCast, n1]
      obtain ⟨⟨ks, af, dl, sc, u⟩, hbk⟩ : ∃ b, bs[k] = b := ⟨_, rfl⟩
      rw [hbk] at hx e0 ⊢
      obtain ⟨h12, ha, hd⟩ := hx
      have h12 : ks.length ≤ 12 := h12
      have ha : af ≤ 9223372036854775807 := ha
      have hd : dl ≤ 9223372036854775807 := hd
      have l1 := putN_len o ks.length
      have l2 := keysB_len ks (putN o ks.length)
      have l3 := putN_len (keysB (putN o ks.length) ks) af
      have l4 := putN_len (putN (keysB (putN o ks.length) ks) af) dl
      simp only [sel_true]
      rw [cput.run (d := (o, (ks.length : Int))) ⟨by show o.length ≤ 90000000; omega, by show (ks.length : Int) ≤ 9223372036854775807; omega⟩]
      simp only [obind_some, cput.add, cput.F]
      rw [lbytes.L1.run (d := (putN o ks.length, bs, bs.length, k, ks, ks.length, 0, (ks, af, dl, sc, u))) ⟨h12, by show (putN o ks.length).length + 8 * ks.length ≤ _; omega, rfl, 0, by omega, rfl⟩]
      simp only [obind_some, lbytes.L1.add, lbytes.L1.F, Int.toNat_zero, List.drop_zero]
      rw [cput.run (d := (keysB (putN o ks.length) ks, af)) ⟨by show (keysB (putN o ks.length) ks).length ≤ 90000000; omega, ha⟩]
      simp only [obind_some, cput.add, cput.F]
      rw [cput.run (d := (putN (keysB (putN o ks.length) ks) af, dl)) ⟨by show (putN (keysB (putN o ks.length) ks) af).length ≤ 90000000; omega, hd⟩]
      simp only [obind_some, cput.add, cput.F]
      rw [cputu.run (d := (putN (putN (keysB (putN o ks.length) ks) af) dl, sc)) (by show (putN (putN (keysB (putN o ks.length) ks) af) dl).length ≤ 90000000; omega)]
      simp only [obind_some, cputu.add, cputu.F]
      rw [N.aNL (by omega)]
      rfl
  · right
    obtain rfl : k = bs.length := by omega
    intro R kn kx
    rw [lbytes.L0.step]
    simp (disch := omega) only [↓N.lt, ↓N.le, ↓N.gt, ↓N.ge, ↓N.eq, ↓N.ne, ↓N.ib, ↓N.ic, ↓N.nn, ↓N.nz, ↓N.dc, ↓N.rm, ↓N.an, ↓N.or, ↓N.no, ↓if_pos, ↓if_neg, ↓sel_true, ↓sel_false, ↓obind_some, if_pos, if_neg, obind_some, N.aNN, N.aNL, N.aLN, N.sNN, N.sNL, N.sLN, N.mNN, N.mNL, N.mLN, N.qNN, N.qNL, N.rNN, N.rNL, N.cN, N.cL, N.tL, Int.toNat_natCast, if_true, if_false, and_self, true_and, and_true, lbytes.L0.add, lbytes.L0.F, List.drop_length]
    rfl
theorem lkOk_i {l : Lk} (h : lkOk l = true) : (∀ b ∈ l.1, BrI b) ∧ 0 < l.1.length ∧ l.1.length ≤ 4 := by
  unfold lkOk at h
  simp only [Bool.and_eq_true, List.all_eq_true, decide_eq_true_eq] at h
  exact ⟨fun b hb => brOk_i (h.1 b hb), h.2⟩
theorem lbytes.ok : ∀ d, lbytes.Pre d → arun Try.prog lbytes.G lbytes.an 0 Try.f21 (lbytes.st d).1 (lbytes.st d).2 some = some (lbytes.out (lbytes.add d (lbytes.F d))) := by
  rintro l ⟨hl, hb⟩
  have hl : LkU l := hl
  rw [lbytes.eq, lright.run (d := l) ⟨hl, hb⟩]
  simp only [obind_some, lright.add, lright.F, lbytes.add, lbytes.F, lkB]
  cases hok : lkOk l
  · rfl
  · obtain ⟨h1, h2, h3⟩ := lkOk_i hok
    have l1 := putN_len [] l.1.length
    have l0 : ([] : List Int).length = 0 := rfl
    simp only [Bool.not_true, sel_false, if_true]
    rw [cput.run (d := ([], (l.1.length : Int))) ⟨by show ([] : List Int).length ≤ 90000000; omega, by show (l.1.length : Int) ≤ 9223372036854775807; omega⟩]
    simp only [obind_some, cput.add, cput.F]
    rw [lbytes.L0.run (d := (putN [] l.1.length, l.1, l.1.length, 0)) ⟨h1, h3, by show (putN [] l.1.length).length ≤ _; omega, rfl, 0, by omega, rfl⟩]
    rfl
theorem lkB_len (l : Lk) : (lkB l).length ≤ 1000 := by
  unfold lkB
  split
  · rename_i h
    obtain ⟨h1, h2, h3⟩ := lkOk_i h
    have key : ∀ (bs : List Brn) (o : List Int), (∀ b ∈ bs, BrI b) → (bs.foldl brB o).length ≤ o.length + 200 * bs.length := by
      intro bs
      induction bs with
      | nil => intro o _; exact Nat.le_refl _
      | cons b bs ih =>
        intro o hb
        have e1 := ih (brB o b) fun x hx => hb x (List.mem_cons_of_mem _ hx)
        have e2 := brB_len o b (hb b List.mem_cons_self).1
        rw [List.foldl_cons, List.length_cons]; omega
    have e := key l.1 (putN [] l.1.length) h1
    have e2 := putN_len [] l.1.length
    have l0 : ([] : List Int).length = 0 := rfl
    omega
  · exact Nat.zero_le _
def nLock : ByteArray := ⟨#[108, 111, 99, 107]⟩
def lkS (l : Lk) : List Int := if lkOk l then tagN nLock [lkB l] else List.replicate 32 0

theorem lbytes.inj : ∀ d d', lbytes.st d = lbytes.st d' → d = d' := fun l l' hEq => by
  have e0 : l = l' := d_inj (t := (.pair (.slice (.pair (.slice (.int .u64)) (.pair (.int .i64) (.pair (.int .i64) (.pair (.int .u64) .unit))))) .unit)) (congrArg (fun s : List AVal × List Ent => (s.1.getD 0 .undef)) hEq)
  rw [e0]
noncomputable def lbytes.E : Entry := Entry.of [some (.pair (.slice (.pair (.slice (.int .u64)) (.pair (.int .i64) (.pair (.int .i64) (.pair (.int .u64) .unit))))) .unit)] lbytes.st lbytes.Pre (fun d => lbytes.add d (lbytes.F d)) lbytes.out
noncomputable def lbytes.call : lbytes.D → Option lbytes.X := fun d => lbytes.E.run (lbytes.st d).1 (lbytes.st d).2
theorem lbytes.run {d : lbytes.D} (h : lbytes.Pre d) : lbytes.call d = some (lbytes.add d (lbytes.F d)) := Entry.of_run lbytes.inj h
theorem lbytes.does : Does Try.prog 21 lbytes.E := Does.of (by kernel_rfl) (show Sound _ lbytes.G from Sound.cons lright.does (Sound.cons cput.does (Sound.cons cputu.does (Sound.nil _)))) (by kernel_rfl) (by kernel_rfl) (by kernel_rfl) (LOk.fn 2 (by kernel_rfl) (And.intro (LDo.of (by kernel_rfl) lbytes.L0.ok) (And.intro (LDo.of (by kernel_rfl) lbytes.L1.ok) trivial))) lbytes.ok

/-! ### corsned/lock.Sum -/
abbrev lsum.D := ((List ((List Int) × (Int × (Int × (Int × Unit))))) × Unit)
def lsum.st : lsum.D → List AVal × List Ent := fun l => ([.d (.pair (.slice (.pair (.slice (.int .u64)) (.pair (.int .i64) (.pair (.int .i64) (.pair (.int .u64) .unit))))) .unit) l], [])
abbrev lsum.Y := (List Int)
abbrev lsum.X := (List Int)
def lsum.out : lsum.X → GRes := fun x => ⟨.d (.arr 32 (.int .u8)) x, [], []⟩
def lsum.add : lsum.D → lsum.Y → lsum.X := fun l y => y


def lsum.Pre : lsum.D → Prop := fun l => LkU l ∧ l.1.length ≤ 1000000000
def lsum.F : lsum.D → lsum.Y := fun l => lkS l

noncomputable def lsum.G : Gam := gcons 14 anyArgs lright.E (gcons 21 anyArgs lbytes.E (gcons 28 anyArgs htag.E (gnil)))
noncomputable def lsum.an : Ann := {
  objs := [],
  loops := fun r => { keep := [], sites := [], frz := [], data := [], owns := [] },
  outs := fun r b => { keep := [], sites := [], frz := [], data := [], owns := [] },
  sums := fun r => none,
  owns := [],
  trim := [],
  res := [] }
theorem lsum.eq {R : Type} (l : ((List ((List Int) × (Int × (Int × (Int × Unit))))) × Unit)) (k : GRes → Option R) : arun Try.prog lsum.G lsum.an 0 Try.f27 (lsum.st l).1 (lsum.st l).2 k =
  obind (lright.call l) fun x1 =>
  sel ((!x1)) (
   k (lsum.out (List.replicate 32 (0 : Int)))) (
   obind (lbytes.call l) fun x2 =>
   obind (htag.call ((⟨#[108, 111, 99, 107]⟩ : ByteArray), [x2])) fun x3 =>
   k (lsum.out x3)) := by kernel_rfl


theorem lsum.ok : ∀ d, lsum.Pre d → arun Try.prog lsum.G lsum.an 0 Try.f27 (lsum.st d).1 (lsum.st d).2 some = some (lsum.out (lsum.add d (lsum.F d))) := by
  rintro l ⟨hl, hb⟩
  have hl : LkU l := hl
  have hlen := lkB_len l
  rw [lsum.eq, lright.run (d := l) ⟨hl, hb⟩, lbytes.run (d := l) ⟨hl, hb⟩]
  simp only [obind_some, lright.add, lright.F, lbytes.add, lbytes.F, lsum.add, lsum.F, lkS]
  rw [htag.run (d := ((⟨#[108, 111, 99, 107]⟩ : ByteArray), [lkB l])) (tag_pre1 (by decide) (by omega))]
  cases lkOk l <;> rfl

theorem lsum.inj : ∀ d d', lsum.st d = lsum.st d' → d = d' := fun l l' hEq => by
  have e0 : l = l' := d_inj (t := (.pair (.slice (.pair (.slice (.int .u64)) (.pair (.int .i64) (.pair (.int .i64) (.pair (.int .u64) .unit))))) .unit)) (congrArg (fun s : List AVal × List Ent => (s.1.getD 0 .undef)) hEq)
  rw [e0]
noncomputable def lsum.E : Entry := Entry.of [some (.pair (.slice (.pair (.slice (.int .u64)) (.pair (.int .i64) (.pair (.int .i64) (.pair (.int .u64) .unit))))) .unit)] lsum.st lsum.Pre (fun d => lsum.add d (lsum.F d)) lsum.out
noncomputable def lsum.call : lsum.D → Option lsum.X := fun d => lsum.E.run (lsum.st d).1 (lsum.st d).2
theorem lsum.run {d : lsum.D} (h : lsum.Pre d) : lsum.call d = some (lsum.add d (lsum.F d)) := Entry.of_run lsum.inj h
theorem lsum.does : Does Try.prog 27 lsum.E := Does.of (by kernel_rfl) (show Sound _ lsum.G from Sound.cons lright.does (Sound.cons lbytes.does (Sound.cons htag.does (Sound.nil _)))) (by kernel_rfl) (by kernel_rfl) (by kernel_rfl) (LOk.fn 0 (by kernel_rfl) trivial) lsum.ok

end Go.Ab
