/-
  Made by a program of mine (wip/gen), and by hand.
-/
import Derived.Test.YtglpcfdjdabdnaaSi1
namespace Go.Ab
open Go.Proofs
set_option maxRecDepth 100000
set_option linter.unusedVariables false
set_option linter.unusedSimpArgs false

/-! ### slices.Grow[[]byte,byte] -/
abbrev bgrow.D := Int
def bgrow.st : bgrow.D → List AVal × List Ent := fun n => ([.nils, .d (.int .i64) n], [])
abbrev bgrow.Y := Nat × (List Int)
abbrev bgrow.X := Nat × (List Int)
def bgrow.out : bgrow.X → GRes := fun x => ⟨.sref (.new 0 0) 0 [] 0 0 x.1, [], [.obj 0 false (.vec 5 (.int .u8) x.2)]⟩
def bgrow.add : bgrow.D → bgrow.Y → bgrow.X := fun n y => y


def bgrow.Pre : bgrow.D → Prop := fun n => ∃ k : Nat, n = k ∧ k ≤ 100000000
def bgrow.F : bgrow.D → bgrow.Y := fun n => (0, List.replicate n.toNat 0)

noncomputable def bgrow.G : Gam := gnil
noncomputable def bgrow.an : Ann := {
  objs := [],
  loops := fun r => { keep := [], sites := [], frz := [], data := [], owns := [] },
  outs := fun r b => { keep := [], sites := [], frz := [], data := [], owns := [] },
  sums := fun r => none,
  owns := [⟨4, [], 22, 52⟩],
  trim := [],
  res := [] }
theorem bgrow.eq {R : Type} (n : Int) (k : GRes → Option R) : arun Try.prog bgrow.G bgrow.an 0 Try.f97 (bgrow.st n).1 (bgrow.st n).2 k =
  sel ((ilt n (0 : Int))) (
   none /- op makeInterface at slices.go:424: makeInterface -/) (
   sel ((igt (isub .i64 n (0 : Int)) (0 : Int))) (
    sel (decide (0 < (isub .i64 n (0 : Int))) && roomA (Int.toNat (isub .i64 n (0 : Int))) 1) (
    sel (inc (0 : Int) (((Int.toNat (isub .i64 n (0 : Int))) : Nat) : Int)) (
    k (bgrow.out (0, (List.replicate (Int.toNat (isub .i64 n (0 : Int))) (0 : Int))))) none) none) (
    k (bgrow.out (0, ([] : List Int))))) := by kernel_rfl


theorem bgrow.ok : ∀ d, bgrow.Pre d → arun Try.prog bgrow.G bgrow.an 0 Try.f97 (bgrow.st d).1 (bgrow.st d).2 some = some (bgrow.out (bgrow.add d (bgrow.F d))) := by
  rintro n ⟨k, rfl, hk⟩
  have e : isub .i64 (k : Int) 0 = (k : Int) := by rw [isub_i64 (by omega) (by omega)]; omega
  rw [bgrow.eq, e, ilt_false (by omega), sel_false]
  by_cases h : 0 < k
  · rw [igt_true (by omega), Int.toNat_natCast, dec_true (by omega), room_true (by omega) (by omega), inc_true (by omega) (by omega)]
    rfl
  · obtain rfl : k = 0 := by omega
    rfl

theorem bgrow.inj : ∀ d d', bgrow.st d = bgrow.st d' → d = d' := fun n n' hEq => by
  have e0 : n = n' := d_inj (t := (.int .i64)) (congrArg (fun s : List AVal × List Ent => (s.1.getD 1 .undef)) hEq)
  rw [e0]
noncomputable def bgrow.E : Entry := Entry.of [none, some (.int .i64)] bgrow.st bgrow.Pre (fun d => bgrow.add d (bgrow.F d)) bgrow.out
noncomputable def bgrow.call : bgrow.D → Option bgrow.X := fun d => bgrow.E.run (bgrow.st d).1 (bgrow.st d).2
theorem bgrow.run {d : bgrow.D} (h : bgrow.Pre d) : bgrow.call d = some (bgrow.add d (bgrow.F d)) := Entry.of_run bgrow.inj h
theorem bgrow.does : Does Try.prog 97 bgrow.E := Does.of (by kernel_rfl) (show Sound _ bgrow.G from Sound.nil _) (by kernel_rfl) (by kernel_rfl) (by kernel_rfl) (LOk.fn 0 (by kernel_rfl) trivial) bgrow.ok


def lensL (l : List (List Int)) : Nat := l.flatten.length
def catF (n : Nat) (l : List Int) : List (List Int) → Nat × List Int
  | [] => (n, l)
  | s :: r => (n + (s :: r).flatten.length, l.take n ++ (s :: r).flatten)
theorem catF_cons (n : Nat) (l s : List Int) (r : List (List Int)) (h : n ≤ l.length) : catF n l (s :: r) = catF (n + s.length) (l.take n ++ s) r := by
  have hl : (l.take n ++ s).length = n + s.length := by rw [List.length_append, List.length_take]; omega
  cases r with
  | nil => simp [catF]
  | cons t r =>
    simp only [catF]
    rw [List.take_of_length_le (Nat.le_of_eq hl)]
    simp only [List.flatten_cons, List.length_append, List.append_assoc, Nat.add_assoc]
theorem cut_cat (n : Nat) (z : List Int) (r : List (List Int)) : (catF 0 z r).1 ≤ (catF 0 z r).2.length ∧ cut (catF 0 z r).2 0 (catF 0 z r).1 = r.flatten := by
  cases r with
  | nil => exact ⟨Nat.zero_le _, rfl⟩
  | cons s r =>
    simp only [catF, List.take_zero, List.nil_append, Nat.zero_add]
    exact ⟨Nat.le_refl _, by show List.take _ (List.drop 0 _) = _; rw [List.drop_zero, List.take_length]⟩
theorem lens_drop (l : List (List Int)) (k : Nat) : lensL (l.drop k) ≤ lensL l := by
  have : lensL l = lensL (l.take k) + lensL (l.drop k) := by
    unfold lensL
    rw [← List.length_append, ← List.flatten_append, List.take_append_drop]
  omega

/-! ### slices.Concat[[]byte,byte] -/
abbrev bconcat.L0.D := (List (List Int)) × Int × (List (List Int)) × Int × Int
def bconcat.L0.st : bconcat.L0.D → AS := fun (slices_2, size, t9, t10, t11) => ⟨([.d (.slice (.slice (.int .u8))) slices_2, .undef, .undef, .d (.int .i64) size] ++ undN 5 ([.d (.slice (.slice (.int .u8))) t9, .d (.int .i64) t10, .d (.int .i64) t11] ++ undN 24 [])), [], (List.replicate 36 [])⟩
abbrev bconcat.L0.Y0 := Int  -- size
abbrev bconcat.L0.X0 := ((List (List Int))) × (Int)
def bconcat.L0.ex0 : bconcat.L0.X0 → Exit × AS := fun x => (.exit 0, ⟨([.d (.slice (.slice (.int .u8))) x.1, .undef, .undef, .d (.int .i64) x.2] ++ undN 32 []), [], (List.replicate 36 [])⟩)
abbrev bconcat.L0.X := bconcat.L0.X0
abbrev bconcat.L0.Y := bconcat.L0.Y0
def bconcat.L0.out : bconcat.L0.X → Out (Exit × AS) := fun x => .ok (bconcat.L0.ex0 x)
def bconcat.L0.add : bconcat.L0.D → bconcat.L0.Y → bconcat.L0.X := fun (slices_2, size, t9, t10, t11) y => (slices_2, y)
abbrev bconcat.L1.D := Nat × (List (List Int)) × Int × Int × (List Int)
def bconcat.L1.st : bconcat.L1.D → AS := fun (newsliceL, t25, t26, t27, n24) => ⟨(undN 6 ([.sref (.new 24 0) 0 [] 0 0 newsliceL] ++ undN 18 ([.d (.slice (.slice (.int .u8))) t25, .d (.int .i64) t26, .d (.int .i64) t27] ++ undN 8 []))), [], (nilN 24 ([[.obj 0 false (.vec 5 (.int .u8) n24)]] ++ nilN 11 []))⟩
abbrev bconcat.L1.Y0 := Nat × (List Int)  -- newsliceL, n24
abbrev bconcat.L1.X0 := Nat × (List Int)
def bconcat.L1.ex0 : bconcat.L1.X0 → Exit × AS := fun x => (.exit 2, ⟨(undN 6 ([.sref (.new 24 0) 0 [] 0 0 x.1] ++ undN 29 [])), [], (nilN 24 ([[.obj 0 false (.vec 5 (.int .u8) x.2)]] ++ nilN 11 []))⟩)
abbrev bconcat.L1.X := bconcat.L1.X0
abbrev bconcat.L1.Y := bconcat.L1.Y0
def bconcat.L1.out : bconcat.L1.X → Out (Exit × AS) := fun x => .ok (bconcat.L1.ex0 x)
def bconcat.L1.add : bconcat.L1.D → bconcat.L1.Y → bconcat.L1.X := fun (newsliceL, t25, t26, t27, n24) y => y
abbrev bconcat.D := (List (List Int))
def bconcat.st : bconcat.D → List AVal × List Ent := fun slices => ([.d (.slice (.slice (.int .u8))) slices], [])
abbrev bconcat.Y := (List Int)
abbrev bconcat.X := (List Int)
def bconcat.out : bconcat.X → GRes := fun x => ⟨.d (.slice (.int .u8)) x, [], []⟩
def bconcat.add : bconcat.D → bconcat.Y → bconcat.X := fun slices y => y


def bconcat.L0.Pre : bconcat.L0.D → Prop := fun (s, size, t, n, i) => s.length ≤ 1000000 ∧ t = s ∧ n = s.length ∧ ∃ k z : Nat, k ≤ s.length ∧ i = k ∧ size = z ∧ z + lensL (s.drop k) ≤ 100000000
def bconcat.L0.F : bconcat.L0.D → bconcat.L0.Y := fun (s, size, t, n, i) => ((size : Int) + ((lensL (s.drop i.toNat) : Nat) : Int) : Int)
def bconcat.L1.Pre : bconcat.L1.D → Prop := fun (n, s, t, i, l) => s.length ≤ 1000000 ∧ n ≤ l.length ∧ t = s.length ∧ ∃ k : Nat, k ≤ s.length ∧ i = k ∧ n + lensL (s.drop k) ≤ 100000000
def bconcat.L1.F : bconcat.L1.D → bconcat.L1.Y := fun (n, s, t, i, l) => catF n l (s.drop i.toNat)
def bconcat.Pre : bconcat.D → Prop := fun s => s.length ≤ 1000000 ∧ lensL s ≤ 100000000
def bconcat.F : bconcat.D → bconcat.Y := fun s => s.flatten

noncomputable def bconcat.G : Gam := gcons 97 anyArgs bgrow.E (gnil)
noncomputable def bconcat.L0.E : LEntry := LEntry.of bconcat.L0.st bconcat.L0.Pre (fun d => bconcat.L0.add d (bconcat.L0.F d)) bconcat.L0.out
noncomputable def bconcat.L0.call : bconcat.L0.D → Option bconcat.L0.X := fun d => bconcat.L0.E.run (bconcat.L0.st d)
noncomputable def bconcat.L1.E : LEntry := LEntry.of bconcat.L1.st bconcat.L1.Pre (fun d => bconcat.L1.add d (bconcat.L1.F d)) bconcat.L1.out
noncomputable def bconcat.L1.call : bconcat.L1.D → Option bconcat.L1.X := fun d => bconcat.L1.E.run (bconcat.L1.st d)
noncomputable def bconcat.an : Ann := {
  objs := [],
  loops := fun r => bif Nat.beq r 3 then { keep := [0, 3, 9, 10, 11], sites := [], frz := [], data := [], owns := [] } else bif Nat.beq r 11 then { keep := [6, 25, 26, 27], sites := [24], frz := [], data := [], owns := [⟨6, [], 24, 52⟩] } else { keep := [], sites := [], frz := [], data := [], owns := [] },
  outs := fun r b => bif Nat.beq r 3 then (bif b then { keep := [2], sites := [], frz := [], data := [], owns := [] } else { keep := [0, 3], sites := [], frz := [], data := [], owns := [] }) else bif Nat.beq r 11 then (bif b then { keep := [2], sites := [], frz := [], data := [], owns := [] } else { keep := [6], sites := [24], frz := [], data := [], owns := [] }) else { keep := [], sites := [], frz := [], data := [], owns := [] },
  sums := fun r => bif Nat.beq r 3 then some bconcat.L0.E else bif Nat.beq r 11 then some bconcat.L1.E else none,
  owns := [],
  trim := [],
  res := [some (.slice (.int .u8))] }
theorem bconcat.L0.inj : ∀ d d', bconcat.L0.st d = bconcat.L0.st d' → d = d' := fun (slices_2, size, t9, t10, t11) (slices_2', size', t9', t10', t11') hEq => by
  have e0 : slices_2 = slices_2' := d_inj (t := (.slice (.slice (.int .u8)))) (congrArg (fun s : AS => (s.slot 0)) hEq)
  have e1 : size = size' := d_inj (t := (.int .i64)) (congrArg (fun s : AS => (s.slot 3)) hEq)
  have e2 : t9 = t9' := d_inj (t := (.slice (.slice (.int .u8)))) (congrArg (fun s : AS => (s.slot 9)) hEq)
  have e3 : t10 = t10' := d_inj (t := (.int .i64)) (congrArg (fun s : AS => (s.slot 10)) hEq)
  have e4 : t11 = t11' := d_inj (t := (.int .i64)) (congrArg (fun s : AS => (s.slot 11)) hEq)
  rw [e0, e1, e2, e3, e4]
theorem bconcat.L0.run {d : bconcat.L0.D} (h : bconcat.L0.Pre d) : bconcat.L0.call d = some (bconcat.L0.add d (bconcat.L0.F d)) := LEntry.of_run bconcat.L0.inj h
theorem bconcat.L0.byRounds (μ : bconcat.L0.D → Nat) (h : ∀ d, bconcat.L0.Pre d → (∃ d', bconcat.L0.Pre d' ∧ μ d' < μ d ∧ bconcat.L0.add d' (bconcat.L0.F d') = bconcat.L0.add d (bconcat.L0.F d) ∧ ∀ {R : Type} (kn : AS → Option R) (kx : Exit → AS → Option R), lround Try.prog bconcat.G bconcat.an 0 Try.f87 0 (bconcat.L0.st d) kn kx = kn (bconcat.L0.st d')) ∨ (∀ {R : Type} (kn : AS → Option R) (kx : Exit → AS → Option R), lround Try.prog bconcat.G bconcat.an 0 Try.f87 0 (bconcat.L0.st d) kn kx = kx (bconcat.L0.ex0 (bconcat.L0.add d (bconcat.L0.F d))).1 (bconcat.L0.ex0 (bconcat.L0.add d (bconcat.L0.F d))).2)) : ∀ d, bconcat.L0.Pre d → ∃ n, lrun Try.prog bconcat.G bconcat.an 0 Try.f87 0 n (bconcat.L0.st d) (fun e s => some (e, s)) = (bconcat.L0.out (bconcat.L0.add d (bconcat.L0.F d))).eval := lrun_one (F := fun d => bconcat.L0.add d (bconcat.L0.F d)) μ h
theorem bconcat.L0.step {R : Type} (slices_2 : (List (List Int))) (size : Int) (t9 : (List (List Int))) (t10 : Int) (t11 : Int) (kn : AS → Option R) (kx : Exit → AS → Option R) : lround Try.prog bconcat.G bconcat.an 0 Try.f87 0 (bconcat.L0.st (slices_2, size, t9, t10, t11)) kn kx =
  sel ((ilt t11 t10)) (
   sel (inb t11 (((List.length t9) : Nat) : Int)) (
   sel ((ilt (iadd .i64 size (((List.length (nth (.slice (.int .u8)) t9 (Int.toNat t11))) : Nat) : Int)) (0 : Int))) (
    none /- op makeInterface at slices.go:496: makeInterface -/) (
    kn (bconcat.L0.st (slices_2, (iadd .i64 size (((List.length (nth (.slice (.int .u8)) t9 (Int.toNat t11))) : Nat) : Int)), t9, t10, (iadd .i64 t11 (1 : Int)))))) none) (
   kx (bconcat.L0.ex0 (slices_2, size)).1 (bconcat.L0.ex0 (slices_2, size)).2) := by kernel_rfl
theorem bconcat.L1.inj : ∀ d d', bconcat.L1.st d = bconcat.L1.st d' → d = d' := fun (newsliceL, t25, t26, t27, n24) (newsliceL', t25', t26', t27', n24') hEq => by
  have e0 : newsliceL = newsliceL' := congrArg (fun s : AS => srefLen (s.slot 6)) hEq
  have e1 : t25 = t25' := d_inj (t := (.slice (.slice (.int .u8)))) (congrArg (fun s : AS => (s.slot 25)) hEq)
  have e2 : t26 = t26' := d_inj (t := (.int .i64)) (congrArg (fun s : AS => (s.slot 26)) hEq)
  have e3 : t27 = t27' := d_inj (t := (.int .i64)) (congrArg (fun s : AS => (s.slot 27)) hEq)
  have e4 : n24 = n24' := vec_inj (e := 5) (t := (.int .u8)) (congrArg (fun s : AS => (entC (s.ent (.new 24 0)))) hEq)
  rw [e0, e1, e2, e3, e4]
theorem bconcat.L1.run {d : bconcat.L1.D} (h : bconcat.L1.Pre d) : bconcat.L1.call d = some (bconcat.L1.add d (bconcat.L1.F d)) := LEntry.of_run bconcat.L1.inj h
theorem bconcat.L1.byRounds (μ : bconcat.L1.D → Nat) (h : ∀ d, bconcat.L1.Pre d → (∃ d', bconcat.L1.Pre d' ∧ μ d' < μ d ∧ bconcat.L1.add d' (bconcat.L1.F d') = bconcat.L1.add d (bconcat.L1.F d) ∧ ∀ {R : Type} (kn : AS → Option R) (kx : Exit → AS → Option R), lround Try.prog bconcat.G bconcat.an 0 Try.f87 1 (bconcat.L1.st d) kn kx = kn (bconcat.L1.st d')) ∨ (∀ {R : Type} (kn : AS → Option R) (kx : Exit → AS → Option R), lround Try.prog bconcat.G bconcat.an 0 Try.f87 1 (bconcat.L1.st d) kn kx = kx (bconcat.L1.ex0 (bconcat.L1.add d (bconcat.L1.F d))).1 (bconcat.L1.ex0 (bconcat.L1.add d (bconcat.L1.F d))).2)) : ∀ d, bconcat.L1.Pre d → ∃ n, lrun Try.prog bconcat.G bconcat.an 0 Try.f87 1 n (bconcat.L1.st d) (fun e s => some (e, s)) = (bconcat.L1.out (bconcat.L1.add d (bconcat.L1.F d))).eval := lrun_one (F := fun d => bconcat.L1.add d (bconcat.L1.F d)) μ h
theorem bconcat.L1.step {R : Type} (newsliceL : Nat) (t25 : (List (List Int))) (t26 : Int) (t27 : Int) (n24 : (List Int)) (kn : AS → Option R) (kx : Exit → AS → Option R) : lround Try.prog bconcat.G bconcat.an 0 Try.f87 1 (bconcat.L1.st (newsliceL, t25, t26, t27, n24)) kn kx =
  sel ((ilt t27 t26)) (
   sel (inb t27 (((List.length t25) : Nat) : Int)) (
   sel (decide (newsliceL ≤ (List.length n24))) (
   sel (roomA (newsliceL + (List.length (nth (.slice (.int .u8)) t25 (Int.toNat t27)))) 1) (
   kn (bconcat.L1.st ((newsliceL + (List.length (nth (.slice (.int .u8)) t25 (Int.toNat t27)))), t25, t26, (iadd .i64 t27 (1 : Int)), ((List.take newsliceL n24) ++ (nth (.slice (.int .u8)) t25 (Int.toNat t27)))))) none) none) none) (
   kx (bconcat.L1.ex0 (newsliceL, n24)).1 (bconcat.L1.ex0 (newsliceL, n24)).2) := by kernel_rfl
theorem bconcat.eq {R : Type} (slices : (List (List Int))) (k : GRes → Option R) : arun Try.prog bconcat.G bconcat.an 0 Try.f87 (bconcat.st slices).1 (bconcat.st slices).2 k =
  obind (bconcat.L0.call (slices, (0 : Int), slices, (((List.length slices) : Nat) : Int), (0 : Int))) fun x1 =>
  obind (bgrow.call x1.2) fun x2 =>
  obind (bconcat.L1.call (x2.1, x1.1, (((List.length x1.1) : Nat) : Int), (0 : Int), x2.2)) fun x3 =>
  sel (decide (0 = 0 ∧ (0 + x3.1) ≤ (List.length x3.2))) (
  k (bconcat.out (cut x3.2 0 x3.1))) none := by kernel_rfl


theorem lens_at (s : List (List Int)) (k : Nat) (h : k < s.length) : lensL (s.drop k) = s[k].length + lensL (s.drop (k + 1)) := by
  unfold lensL
  rw [List.drop_eq_getElem_cons h, List.flatten_cons, List.length_append]
theorem bconcat.L0.ok : ∀ d, bconcat.L0.Pre d → ∃ n, lrun Try.prog bconcat.G bconcat.an 0 Try.f87 0 n (bconcat.L0.st d) (fun e s => some (e, s)) = (bconcat.L0.out (bconcat.L0.add d (bconcat.L0.F d))).eval := by
  refine bconcat.L0.byRounds (fun (s, size, t, n, i) => s.length - i.toNat) ?_
  rintro ⟨s, size, t, n, i⟩ ⟨hs, rfl, rfl, k, z, hk, rfl, rfl, hz⟩
  have hs : t.length ≤ 1000000 := hs
  have hk : k ≤ t.length := hk
  have hz : z + lensL (t.drop k) ≤ 100000000 := hz
  by_cases h : k < t.length
  · left
    have n1 : nth (.slice (.int .u8)) t k = t[k] := nth_lt (t := .slice (.int .u8)) h
    have hd := lens_at t k h
    refine ⟨(t, ((z + t[k].length : Nat) : Int), t, t.length, ((k + 1 : Nat) : Int)), ⟨hs, rfl, rfl, k + 1, z + t[k].length, by omega, rfl, rfl, by omega⟩, by simp only [Int.toNat_natCast]; omega, ?_, fun kn kx => ?_⟩
    · simp only [bconcat.L0.add, bconcat.L0.F, Int.toNat_natCast]
      rw [hd]
      refine congrArg _ ?_
      omega
    · rw [bconcat.L0.step]
      simp (disch := omega) only [↓N.lt, ↓N.le, ↓N.gt, ↓N.ge, ↓N.eq, ↓N.ne, ↓N.ib, ↓N.ic, ↓N.nn, ↓N.nz, ↓N.dc, ↓N.rm, ↓N.an, ↓N.or, ↓N.no, ↓if_pos, ↓if_neg, ↓sel_true, ↓sel_false, ↓obind_some, if_pos, if_neg, obind_some, N.aNN, N.aNL, N.aLN, N.sNN, N.sNL, N.sLN, N.mNN, N.mNL, N.mLN, N.qNN, N.qNL, N.rNN, N.rNL, N.cN, N.cL, N.tL, Int.toNat_natCast, if_true, if_false, and_self, true_and, and_true, n1]
  · right
    obtain rfl : k = t.length := by omega
    intro R kn kx
    rw [bconcat.L0.step]
    simp (disch := omega) only [↓N.lt, ↓N.le, ↓N.gt, ↓N.ge, ↓N.eq, ↓N.ne, ↓N.ib, ↓N.ic, ↓N.nn, ↓N.nz, ↓N.dc, ↓N.rm, ↓N.an, ↓N.or, ↓N.no, ↓if_pos, ↓if_neg, ↓sel_true, ↓sel_false, ↓obind_some, if_pos, if_neg, obind_some, N.aNN, N.aNL, N.aLN, N.sNN, N.sNL, N.sLN, N.mNN, N.mNL, N.mLN, N.qNN, N.qNL, N.rNN, N.rNL, N.cN, N.cL, N.tL, Int.toNat_natCast, if_true, if_false, and_self, true_and, and_true, bconcat.L0.add, bconcat.L0.F, List.drop_length]
    simp only [lensL, List.flatten_nil, List.length_nil, Int.natCast_zero, Int.add_zero]
theorem bconcat.L1.ok : ∀ d, bconcat.L1.Pre d → ∃ n, lrun Try.prog bconcat.G bconcat.an 0 Try.f87 1 n (bconcat.L1.st d) (fun e s => some (e, s)) = (bconcat.L1.out (bconcat.L1.add d (bconcat.L1.F d))).eval := by
  refine bconcat.L1.byRounds (fun (n, s, t, i, l) => s.length - i.toNat) ?_
  rintro ⟨n, s, t, i, l⟩ ⟨hs, hn, rfl, k, hk, rfl, hz⟩
  have hs : s.length ≤ 1000000 := hs
  have hn : n ≤ l.length := hn
  have hk : k ≤ s.length := hk
  have hz : n + lensL (s.drop k) ≤ 100000000 := hz
  by_cases h : k < s.length
  · left
    have n1 : nth (.slice (.int .u8)) s k = s[k] := nth_lt (t := .slice (.int .u8)) h
    have hd := lens_at s k h
    refine ⟨(n + s[k].length, s, s.length, ((k + 1 : Nat) : Int), l.take n ++ s[k]), ⟨hs, by rw [List.length_append, List.length_take]; omega, rfl, k + 1, by omega, rfl, by omega⟩, by simp only [Int.toNat_natCast]; omega, ?_, fun kn kx => ?_⟩
    · simp only [bconcat.L1.add, bconcat.L1.F, Int.toNat_natCast]
      rw [List.drop_eq_getElem_cons h, catF_cons _ _ _ _ hn]
    · rw [bconcat.L1.step]
      simp (disch := omega) only [↓N.lt, ↓N.le, ↓N.gt, ↓N.ge, ↓N.eq, ↓N.ne, ↓N.ib, ↓N.ic, ↓N.nn, ↓N.nz, ↓N.dc, ↓N.rm, ↓N.an, ↓N.or, ↓N.no, ↓if_pos, ↓if_neg, ↓sel_true, ↓sel_false, ↓obind_some, if_pos, if_neg, obind_some, N.aNN, N.aNL, N.aLN, N.sNN, N.sNL, N.sLN, N.mNN, N.mNL, N.mLN, N.qNN, N.qNL, N.rNN, N.rNL, N.cN, N.cL, N.tL, Int.toNat_natCast, if_true, if_false, and_self, true_and, and_true, n1]
  · right
    obtain rfl : k = s.length := by omega
    intro R kn kx
    rw [bconcat.L1.step]
    simp (disch := omega) only [↓N.lt, ↓N.le, ↓N.gt, ↓N.ge, ↓N.eq, ↓N.ne, ↓N.ib, ↓N.ic, ↓N.nn, ↓N.nz, ↓N.dc, ↓N.rm, ↓N.an, ↓N.or, ↓N.no, ↓if_pos, ↓if_neg, ↓sel_true, ↓sel_false, ↓obind_some, if_pos, if_neg, obind_some, N.aNN, N.aNL, N.aLN, N.sNN, N.sNL, N.sLN, N.mNN, N.mNL, N.mLN, N.qNN, N.qNL, N.rNN, N.rNL, N.cN, N.cL, N.tL, Int.toNat_natCast, if_true, if_false, and_self, true_and, and_true, bconcat.L1.add, bconcat.L1.F, List.drop_length]
    rfl
theorem bconcat.ok : ∀ d, bconcat.Pre d → arun Try.prog bconcat.G bconcat.an 0 Try.f87 (bconcat.st d).1 (bconcat.st d).2 some = some (bconcat.out (bconcat.add d (bconcat.F d))) := by
  rintro s ⟨hs, hz⟩
  have hs : s.length ≤ 1000000 := hs
  have hz : lensL s ≤ 100000000 := hz
  have p1 : bconcat.L0.Pre (s, 0, s, s.length, 0) := ⟨hs, rfl, rfl, 0, 0, by omega, rfl, rfl, by rw [List.drop_zero]; omega⟩
  have p2 : bconcat.L1.Pre (0, s, s.length, 0, List.replicate (lensL s) 0) := ⟨hs, by omega, rfl, 0, by omega, rfl, by rw [List.drop_zero]; omega⟩
  rw [bconcat.eq, bconcat.L0.run p1]
  simp only [obind_some, bconcat.L0.add, bconcat.L0.F, Int.toNat_zero, List.drop_zero, Int.zero_add]
  rw [bgrow.run (d := ((lensL s : Nat) : Int)) ⟨lensL s, rfl, hz⟩]
  simp only [obind_some, bgrow.add, bgrow.F, Int.toNat_natCast]
  rw [bconcat.L1.run p2]
  simp only [obind_some, bconcat.L1.add, bconcat.L1.F, Int.toNat_zero, List.drop_zero]
  obtain ⟨c1, c2⟩ := cut_cat 0 (List.replicate (lensL s) 0) s
  simp only [Nat.zero_add, c1, and_self, decide_true, sel_true, c2]
  rfl

theorem bconcat.inj : ∀ d d', bconcat.st d = bconcat.st d' → d = d' := fun slices slices' hEq => by
  have e0 : slices = slices' := d_inj (t := (.slice (.slice (.int .u8)))) (congrArg (fun s : List AVal × List Ent => (s.1.getD 0 .undef)) hEq)
  rw [e0]
noncomputable def bconcat.E : Entry := Entry.of [some (.slice (.slice (.int .u8)))] bconcat.st bconcat.Pre (fun d => bconcat.add d (bconcat.F d)) bconcat.out
noncomputable def bconcat.call : bconcat.D → Option bconcat.X := fun d => bconcat.E.run (bconcat.st d).1 (bconcat.st d).2
theorem bconcat.run {d : bconcat.D} (h : bconcat.Pre d) : bconcat.call d = some (bconcat.add d (bconcat.F d)) := Entry.of_run bconcat.inj h
theorem bconcat.does : Does Try.prog 87 bconcat.E := Does.of (by kernel_rfl) (show Sound _ bconcat.G from Sound.cons bgrow.does (Sound.nil _)) (by kernel_rfl) (by kernel_rfl) (by kernel_rfl) (LOk.fn 2 (by kernel_rfl) (And.intro (LDo.of (by kernel_rfl) bconcat.L0.ok) (And.intro (LDo.of (by kernel_rfl) bconcat.L1.ok) trivial))) bconcat.ok

/-! ### corsned/code.laid -/
abbrev claid.D := (List Int) × (List Int)
def claid.st : claid.D → List AVal × List Ent := fun (b, more) => ([.d (.slice (.int .u8)) b, .d (.slice (.int .u8)) more], [])
abbrev claid.Y := (List Int)
abbrev claid.X := (List Int)
def claid.out : claid.X → GRes := fun x => ⟨.d (.slice (.int .u8)) x, [], []⟩
def claid.add : claid.D → claid.Y → claid.X := fun (b, more) y => y


def claid.Pre : claid.D → Prop := fun (a, b) => a.length + b.length ≤ 100000000
def claid.F : claid.D → claid.Y := fun (a, b) => a ++ b

noncomputable def claid.G : Gam := gcons 87 anyArgs bconcat.E (gnil)
noncomputable def claid.an : Ann := {
  objs := [],
  loops := fun r => { keep := [], sites := [], frz := [], data := [], owns := [] },
  outs := fun r b => { keep := [], sites := [], frz := [], data := [], owns := [] },
  sums := fun r => none,
  owns := [],
  trim := [],
  res := [] }
theorem claid.eq {R : Type} (b : (List Int)) (more : (List Int)) (k : GRes → Option R) : arun Try.prog claid.G claid.an 0 Try.f67 (claid.st (b, more)).1 (claid.st (b, more)).2 k =
  obind (bconcat.call [b, more]) fun x1 =>
  k (claid.out x1) := by kernel_rfl


theorem claid.ok : ∀ d, claid.Pre d → arun Try.prog claid.G claid.an 0 Try.f67 (claid.st d).1 (claid.st d).2 some = some (claid.out (claid.add d (claid.F d))) := by
  rintro ⟨a, b⟩ h
  have h : a.length + b.length ≤ 100000000 := h
  rw [claid.eq, bconcat.run (d := [a, b]) ⟨by show [a, b].length ≤ _; simp, by show lensL [a, b] ≤ _; simp only [lensL, List.flatten_cons, List.flatten_nil, List.append_nil, List.length_append]; omega⟩]
  simp only [obind_some, bconcat.add, bconcat.F, claid.add, claid.F, List.flatten_cons, List.flatten_nil, List.append_nil]

theorem claid.inj : ∀ d d', claid.st d = claid.st d' → d = d' := fun (b, more) (b', more') hEq => by
  have e0 : b = b' := d_inj (t := (.slice (.int .u8))) (congrArg (fun s : List AVal × List Ent => (s.1.getD 0 .undef)) hEq)
  have e1 : more = more' := d_inj (t := (.slice (.int .u8))) (congrArg (fun s : List AVal × List Ent => (s.1.getD 1 .undef)) hEq)
  rw [e0, e1]
noncomputable def claid.E : Entry := Entry.of [some (.slice (.int .u8)), some (.slice (.int .u8))] claid.st claid.Pre (fun d => claid.add d (claid.F d)) claid.out
noncomputable def claid.call : claid.D → Option claid.X := fun d => claid.E.run (claid.st d).1 (claid.st d).2
theorem claid.run {d : claid.D} (h : claid.Pre d) : claid.call d = some (claid.add d (claid.F d)) := Entry.of_run claid.inj h
theorem claid.does : Does Try.prog 67 claid.E := Does.of (by kernel_rfl) (show Sound _ claid.G from Sound.cons bconcat.does (Sound.nil _)) (by kernel_rfl) (by kernel_rfl) (by kernel_rfl) (LOk.fn 0 (by kernel_rfl) trivial) claid.ok

end Go.Ab
