/-
  Made by a program of mine (wip/gen), and by hand.
-/
import Derived.Test.YtglpcfdjdabdnaaSi1
namespace Go.Ab
open Go.Proofs
set_option maxRecDepth 100000
set_option linter.unusedVariables false
set_option linter.unusedSimpArgs false


/-- A branch; a lock. -/
abbrev Brn := List Int × (Int × (Int × (Int × Unit)))
abbrev Lk := List Brn × Unit
abbrev Wit := Int × (List Sg × (Int × Unit))
def KeysU (l : List Int) : Prop := ∀ x ∈ l, U64 x
def BrU (b : Brn) : Prop := KeysU b.1 ∧ U64 b.2.2.2.1
def LkU (l : Lk) : Prop := ∀ b ∈ l.1, BrU b
def htOk (n : Int) : Bool := decide (0 ≤ n ∧ n ≤ 1048576)
def brOk (b : Brn) : Bool := decide (b.1.length ≤ 12) && (b.1.all isP && (htOk b.2.1 && (htOk b.2.2.1 && (decide (b.2.2.2.1 = 0) || isP b.2.2.2.1))))
def lkOk (l : Lk) : Bool := l.1.all brOk && decide (0 < l.1.length ∧ l.1.length ≤ 4)
def badFrom : List Int → Int → Int ⊕ Unit
  | [], _ => .inr ()
  | p :: ps, i => if isP p then badFrom ps (i + 1) else .inl i
def badAt (l : List Int) : Int := match badFrom l 0 with | .inl i => i | .inr _ => -1
theorem badFrom_all : ∀ (l : List Int) (i : Int), 0 ≤ i → (match badFrom l i with | .inl i => decide (i ≥ 0) | .inr _ => false) = !(l.all isP)
  | [], _, _ => rfl
  | p :: ps, i, h => by
    rw [badFrom, List.all_cons]
    cases hp : isP p
    · simp [h]
    · simp only [if_true, Bool.true_and]
      exact badFrom_all ps (i + 1) (by omega)
theorem badAt_all (l : List Int) : ige (badAt l) 0 = !(l.all isP) := by
  have := badFrom_all l 0 (by omega)
  unfold badAt ige
  cases h : badFrom l 0
  · rw [h] at this; exact this
  · rw [h] at this; rw [← this]; rfl

/-! ### corsned/lock.Right$1 -/
abbrev lbad.D := Int
def lbad.st : lbad.D → List AVal × List Ent := fun p => ([.d (.int .u64) p], [])
abbrev lbad.Y := Bool
abbrev lbad.X := Bool
def lbad.out : lbad.X → GRes := fun x => ⟨.d .bool x, [], []⟩
def lbad.add : lbad.D → lbad.Y → lbad.X := fun p y => y


def lbad.Pre : lbad.D → Prop := fun p => U64 p
def lbad.F : lbad.D → lbad.Y := fun p => !isP p

noncomputable def lbad.G : Gam := gcons 15 anyArgs pright.E (gnil)
noncomputable def lbad.an : Ann := {
  objs := [],
  loops := fun r => { keep := [], sites := [], frz := [], data := [], owns := [] },
  outs := fun r b => { keep := [], sites := [], frz := [], data := [], owns := [] },
  sums := fun r => none,
  owns := [],
  trim := [],
  res := [] }
theorem lbad.eq {R : Type} (p : Int) (k : GRes → Option R) : arun Try.prog lbad.G lbad.an 0 Try.f38 (lbad.st p).1 (lbad.st p).2 k =
  obind (pright.call p) fun x1 =>
  k (lbad.out (!x1)) := by kernel_rfl


theorem lbad.ok : ∀ d, lbad.Pre d → arun Try.prog lbad.G lbad.an 0 Try.f38 (lbad.st d).1 (lbad.st d).2 some = some (lbad.out (lbad.add d (lbad.F d))) := by
  intro p hp
  rw [lbad.eq, pright.run (d := p) hp]
  rfl

theorem lbad.inj : ∀ d d', lbad.st d = lbad.st d' → d = d' := fun p p' hEq => by
  have e0 : p = p' := d_inj (t := (.int .u64)) (congrArg (fun s : List AVal × List Ent => (s.1.getD 0 .undef)) hEq)
  rw [e0]
noncomputable def lbad.E : Entry := Entry.of [some (.int .u64)] lbad.st lbad.Pre (fun d => lbad.add d (lbad.F d)) lbad.out
noncomputable def lbad.call : lbad.D → Option lbad.X := fun d => lbad.E.run (lbad.st d).1 (lbad.st d).2
theorem lbad.run {d : lbad.D} (h : lbad.Pre d) : lbad.call d = some (lbad.add d (lbad.F d)) := Entry.of_run lbad.inj h
theorem lbad.does : Does Try.prog 38 lbad.E := Does.of (by kernel_rfl) (show Sound _ lbad.G from Sound.cons pright.does (Sound.nil _)) (by kernel_rfl) (by kernel_rfl) (by kernel_rfl) (LOk.fn 0 (by kernel_rfl) trivial) lbad.ok

/-! ### slices.IndexFunc[[]corsned/api.Point,corsned/api.Point] -/
abbrev pindex.L0.D := (List Int) × Int × Int
def pindex.L0.st : pindex.L0.D → AS := fun (sv_2, t7, t8) => ⟨([.d (.slice (.int .u64)) sv_2, .fn 38 (.nil)] ++ undN 5 ([.d (.int .i64) t7, .d (.int .i64) t8] ++ undN 10 [])), [], (List.replicate 19 [])⟩
abbrev pindex.L0.Y0 := Int  -- t4
abbrev pindex.L0.X0 := Int
def pindex.L0.ex0 : pindex.L0.X0 → Exit × AS := fun x => (.ret, ⟨(undN 4 ([.d (.int .i64) x] ++ undN 14 [])), [], (List.replicate 19 [])⟩)
abbrev pindex.L0.Y1 := Unit
abbrev pindex.L0.X1 := Unit
def pindex.L0.ex1 : pindex.L0.X1 → Exit × AS := fun x => (.exit 0, ⟨(undN 19 []), [], (List.replicate 19 [])⟩)
abbrev pindex.L0.X := (pindex.L0.X0) ⊕ (pindex.L0.X1)
abbrev pindex.L0.Y := (pindex.L0.Y0) ⊕ (pindex.L0.Y1)
def pindex.L0.out : pindex.L0.X → Out (Exit × AS) := fun x => .br x.isLeft (.get x.getLeft? fun a => .ok (pindex.L0.ex0 a)) (.get x.getRight? fun b => .ok (pindex.L0.ex1 b))
def pindex.L0.add : pindex.L0.D → pindex.L0.Y → pindex.L0.X := fun (sv_2, t7, t8) y => match y with | .inl y => .inl y | .inr z => .inr (z)
abbrev pindex.D := (List Int)
def pindex.st : pindex.D → List AVal × List Ent := fun sv => ([.d (.slice (.int .u64)) sv, .fn 38 (.nil)], [])
abbrev pindex.Y := Int
abbrev pindex.X := Int
def pindex.out : pindex.X → GRes := fun x => ⟨.d (.int .i64) x, [], []⟩
def pindex.add : pindex.D → pindex.Y → pindex.X := fun sv y => y


def pindex.L0.Pre : pindex.L0.D → Prop := fun (l, n, i) => KeysU l ∧ l.length ≤ 1000000000 ∧ n = l.length ∧ ∃ k : Nat, k ≤ l.length ∧ i = k
def pindex.L0.F : pindex.L0.D → pindex.L0.Y := fun (l, n, i) => badFrom (l.drop i.toNat) i
def pindex.Pre : pindex.D → Prop := fun l => KeysU l ∧ l.length ≤ 1000000000
def pindex.F : pindex.D → pindex.Y := fun l => badAt l

noncomputable def pindex.G : Gam := gcons 38 anyArgs lbad.E (gnil)
noncomputable def pindex.L0.E : LEntry := LEntry.of pindex.L0.st pindex.L0.Pre (fun d => pindex.L0.add d (pindex.L0.F d)) pindex.L0.out
noncomputable def pindex.L0.call : pindex.L0.D → Option pindex.L0.X := fun d => pindex.L0.E.run (pindex.L0.st d)
noncomputable def pindex.an : Ann := {
  objs := [],
  loops := fun r => bif Nat.beq r 2 then { keep := [0, 1, 7, 8], sites := [], frz := [], data := [], owns := [] } else { keep := [], sites := [], frz := [], data := [], owns := [] },
  outs := fun r b => bif Nat.beq r 2 then (bif b then { keep := [4], sites := [], frz := [], data := [], owns := [] } else { keep := [], sites := [], frz := [], data := [], owns := [] }) else { keep := [], sites := [], frz := [], data := [], owns := [] },
  sums := fun r => bif Nat.beq r 2 then some pindex.L0.E else none,
  owns := [],
  trim := [],
  res := [] }
theorem pindex.L0.inj : ∀ d d', pindex.L0.st d = pindex.L0.st d' → d = d' := fun (sv_2, t7, t8) (sv_2', t7', t8') hEq => by
  have e0 : sv_2 = sv_2' := d_inj (t := (.slice (.int .u64))) (congrArg (fun s : AS => (s.slot 0)) hEq)
  have e1 : t7 = t7' := d_inj (t := (.int .i64)) (congrArg (fun s : AS => (s.slot 7)) hEq)
  have e2 : t8 = t8' := d_inj (t := (.int .i64)) (congrArg (fun s : AS => (s.slot 8)) hEq)
  rw [e0, e1, e2]
theorem pindex.L0.run {d : pindex.L0.D} (h : pindex.L0.Pre d) : pindex.L0.call d = some (pindex.L0.add d (pindex.L0.F d)) := LEntry.of_run pindex.L0.inj h
theorem pindex.L0.byRounds (μ : pindex.L0.D → Nat) (h : ∀ d, pindex.L0.Pre d → (∃ d', pindex.L0.Pre d' ∧ μ d' < μ d ∧ pindex.L0.add d' (pindex.L0.F d') = pindex.L0.add d (pindex.L0.F d) ∧ ∀ {R : Type} (kn : AS → Option R) (kx : Exit → AS → Option R), lround Try.prog pindex.G pindex.an 0 Try.f65 0 (pindex.L0.st d) kn kx = kn (pindex.L0.st d')) ∨ (∃ r, (pindex.L0.out (pindex.L0.add d (pindex.L0.F d))).eval = some r ∧ ∀ {R : Type} (kn : AS → Option R) (kx : Exit → AS → Option R), lround Try.prog pindex.G pindex.an 0 Try.f65 0 (pindex.L0.st d) kn kx = kx r.1 r.2)) : ∀ d, pindex.L0.Pre d → ∃ n, lrun Try.prog pindex.G pindex.an 0 Try.f65 0 n (pindex.L0.st d) (fun e s => some (e, s)) = (pindex.L0.out (pindex.L0.add d (pindex.L0.F d))).eval := lrun_of (F := fun d => pindex.L0.add d (pindex.L0.F d)) (out := pindex.L0.out) μ h
theorem pindex.L0.step {R : Type} (sv_2 : (List Int)) (t7 : Int) (t8 : Int) (kn : AS → Option R) (kx : Exit → AS → Option R) : lround Try.prog pindex.G pindex.an 0 Try.f65 0 (pindex.L0.st (sv_2, t7, t8)) kn kx =
  sel ((ilt t8 t7)) (
   sel (inb t8 (((List.length sv_2) : Nat) : Int)) (
   obind (lbad.call (nth (.int .u64) sv_2 (Int.toNat t8))) fun x1 =>
   sel (x1) (
    kx (pindex.L0.ex0 t8).1 (pindex.L0.ex0 t8).2) (
    kn (pindex.L0.st (sv_2, t7, (iadd .i64 t8 (1 : Int)))))) none) (
   kx (pindex.L0.ex1 ()).1 (pindex.L0.ex1 ()).2) := by kernel_rfl
theorem pindex.eq {R : Type} (sv : (List Int)) (k : GRes → Option R) : arun Try.prog pindex.G pindex.an 0 Try.f65 (pindex.st sv).1 (pindex.st sv).2 k =
  obind (pindex.L0.call (sv, (((List.length sv) : Nat) : Int), (0 : Int))) fun x2 =>
  sel (x2.isLeft) (
   obind (x2.getLeft?) fun a3 =>
   k (pindex.out a3)) (
   obind (x2.getRight?) fun b4 =>
   k (pindex.out (-1 : Int))) := by kernel_rfl


theorem pindex.L0.ok : ∀ d, pindex.L0.Pre d → ∃ n, lrun Try.prog pindex.G pindex.an 0 Try.f65 0 n (pindex.L0.st d) (fun e s => some (e, s)) = (pindex.L0.out (pindex.L0.add d (pindex.L0.F d))).eval := by
  refine pindex.L0.byRounds (fun (l, n, i) => l.length - i.toNat) ?_
  rintro ⟨l, n, i⟩ ⟨hl, hb, rfl, k, hk, rfl⟩
  have hb : l.length ≤ 1000000000 := hb
  have hk : k ≤ l.length := hk
  by_cases h : k < l.length
  · have hx := hl _ (List.getElem_mem h)
    have n1 : nth (.int .u64) l k = l[k] := nth_lt (t := .int .u64) h
    have hd : badFrom (l.drop k) k = if isP l[k] then badFrom (l.drop (k + 1)) ((k + 1 : Nat) : Int) else .inl (k : Int) := by rw [List.drop_eq_getElem_cons h]; rfl
    cases hp : isP l[k]
    · right
      refine ⟨pindex.L0.ex0 (k : Int), ?_, fun kn kx => ?_⟩
      · simp only [pindex.L0.add, pindex.L0.F, Int.toNat_natCast, hd, hp, Bool.false_eq_true, if_false]
        rfl
      · rw [pindex.L0.step]
        simp (disch := omega) only [↓N.lt, ↓N.le, ↓N.gt, ↓N.ge, ↓N.eq, ↓N.ne, ↓N.ib, ↓N.ic, ↓N.nn, ↓N.nz, ↓N.dc, ↓N.rm, ↓N.an, ↓N.or, ↓N.no, ↓if_pos, ↓if_neg, ↓sel_true, ↓sel_false, ↓obind_some, if_pos, if_neg, obind_some, N.aNN, N.aNL, N.aLN, N.sNN, N.sNL, N.sLN, N.mNN, N.mNL, N.mLN, N.qNN, N.qNL, N.rNN, N.rNL, N.cN, N.cL, N.tL, Int.toNat_natCast, if_true, if_false, and_self, true_and, and_true, n1]
        rw [lbad.run (d := l[k]) hx]
        simp only [obind_some, lbad.add, lbad.F, hp, Bool.not_false, sel_true]
    · left
      refine ⟨(l, l.length, ((k + 1 : Nat) : Int)), ⟨hl, hb, rfl, k + 1, by omega, rfl⟩, by simp only [Int.toNat_natCast]; omega, ?_, fun kn kx => ?_⟩
      · simp only [pindex.L0.add, pindex.L0.F, Int.toNat_natCast, hd, hp, if_true]
      · rw [pindex.L0.step]
        simp (disch := omega) only [↓N.lt, ↓N.le, ↓N.gt, ↓N.ge, ↓N.eq, ↓N.ne, ↓N.ib, ↓N.ic, ↓N.nn, ↓N.nz, ↓N.dc, ↓N.rm, ↓N.an, ↓N.or, ↓N.no, ↓if_pos, ↓if_neg, ↓sel_true, ↓sel_false, ↓obind_some, if_pos, if_neg, obind_some, N.aNN, N.aNL, N.aLN, N.sNN, N.sNL, N.sLN, N.mNN, N.mNL, N.mLN, N.qNN, N.qNL, N.rNN, N.rNL, N.cN, N.cL, N.tL, Int.toNat_natCast, if_true, if_false, and_self, true_and, and_true, n1]
        rw [lbad.run (d := l[k]) hx]
        simp only [obind_some, lbad.add, lbad.F, hp, Bool.not_true, sel_false]
  · right
    obtain rfl : k = l.length := by omega
    refine ⟨pindex.L0.ex1 (), ?_, fun kn kx => ?_⟩
    · simp only [pindex.L0.add, pindex.L0.F, Int.toNat_natCast, List.drop_length]
      rfl
    · rw [pindex.L0.step]
      simp (disch := omega) only [↓N.lt, ↓N.le, ↓N.gt, ↓N.ge, ↓N.eq, ↓N.ne, ↓N.ib, ↓N.ic, ↓N.nn, ↓N.nz, ↓N.dc, ↓N.rm, ↓N.an, ↓N.or, ↓N.no, ↓if_pos, ↓if_neg, ↓sel_true, ↓sel_false, ↓obind_some, if_pos, if_neg, obind_some, N.aNN, N.aNL, N.aLN, N.sNN, N.sNL, N.sLN, N.mNN, N.mNL, N.mLN, N.qNN, N.qNL, N.rNN, N.rNL, N.cN, N.cL, N.tL, Int.toNat_natCast, if_true, if_false, and_self, true_and, and_true]
theorem pindex.ok : ∀ d, pindex.Pre d → arun Try.prog pindex.G pindex.an 0 Try.f65 (pindex.st d).1 (pindex.st d).2 some = some (pindex.out (pindex.add d (pindex.F d))) := by
  rintro l ⟨hl, hb⟩
  rw [pindex.eq, pindex.L0.run (d := (l, l.length, 0)) ⟨hl, hb, rfl, 0, by omega, rfl⟩]
  simp only [obind_some, pindex.L0.add, pindex.L0.F, Int.toNat_zero, List.drop_zero, pindex.add, pindex.F, badAt]
  cases badFrom l 0 <;> rfl

theorem pindex.inj : ∀ d d', pindex.st d = pindex.st d' → d = d' := fun sv sv' hEq => by
  have e0 : sv = sv' := d_inj (t := (.slice (.int .u64))) (congrArg (fun s : List AVal × List Ent => (s.1.getD 0 .undef)) hEq)
  rw [e0]
noncomputable def pindex.E : Entry := Entry.of [some (.slice (.int .u64)), none] pindex.st pindex.Pre (fun d => pindex.add d (pindex.F d)) pindex.out
noncomputable def pindex.call : pindex.D → Option pindex.X := fun d => pindex.E.run (pindex.st d).1 (pindex.st d).2
theorem pindex.run {d : pindex.D} (h : pindex.Pre d) : pindex.call d = some (pindex.add d (pindex.F d)) := Entry.of_run pindex.inj h
theorem pindex.does : Does Try.prog 65 pindex.E := Does.of (by kernel_rfl) (show Sound _ pindex.G from Sound.cons lbad.does (Sound.nil _)) (by kernel_rfl) (by kernel_rfl) (by kernel_rfl) (LOk.fn 1 (by kernel_rfl) (And.intro (LDo.of (by kernel_rfl) pindex.L0.ok) trivial)) pindex.ok

/-! ### slices.ContainsFunc[[]corsned/api.Point,corsned/api.Point] -/
abbrev pcontains.D := (List Int)
def pcontains.st : pcontains.D → List AVal × List Ent := fun sv => ([.d (.slice (.int .u64)) sv, .fn 38 (.nil)], [])
abbrev pcontains.Y := Bool
abbrev pcontains.X := Bool
def pcontains.out : pcontains.X → GRes := fun x => ⟨.d .bool x, [], []⟩
def pcontains.add : pcontains.D → pcontains.Y → pcontains.X := fun sv y => y


def pcontains.Pre : pcontains.D → Prop := fun l => KeysU l ∧ l.length ≤ 1000000000
def pcontains.F : pcontains.D → pcontains.Y := fun l => !(l.all isP)

noncomputable def pcontains.G : Gam := gcons 65 anyArgs pindex.E (gnil)
noncomputable def pcontains.an : Ann := {
  objs := [],
  loops := fun r => { keep := [], sites := [], frz := [], data := [], owns := [] },
  outs := fun r b => { keep := [], sites := [], frz := [], data := [], owns := [] },
  sums := fun r => none,
  owns := [],
  trim := [],
  res := [] }
theorem pcontains.eq {R : Type} (sv : (List Int)) (k : GRes → Option R) : arun Try.prog pcontains.G pcontains.an 0 Try.f39 (pcontains.st sv).1 (pcontains.st sv).2 k =
  obind (pindex.call sv) fun x1 =>
  k (pcontains.out (ige x1 (0 : Int))) := by kernel_rfl


theorem pcontains.ok : ∀ d, pcontains.Pre d → arun Try.prog pcontains.G pcontains.an 0 Try.f39 (pcontains.st d).1 (pcontains.st d).2 some = some (pcontains.out (pcontains.add d (pcontains.F d))) := by
  rintro l ⟨hl, hb⟩
  rw [pcontains.eq, pindex.run (d := l) ⟨hl, hb⟩]
  simp only [obind_some, pindex.add, pindex.F, badAt_all]
  rfl

theorem pcontains.inj : ∀ d d', pcontains.st d = pcontains.st d' → d = d' := fun sv sv' hEq => by
  have e0 : sv = sv' := d_inj (t := (.slice (.int .u64))) (congrArg (fun s : List AVal × List Ent => (s.1.getD 0 .undef)) hEq)
  rw [e0]
noncomputable def pcontains.E : Entry := Entry.of [some (.slice (.int .u64)), none] pcontains.st pcontains.Pre (fun d => pcontains.add d (pcontains.F d)) pcontains.out
noncomputable def pcontains.call : pcontains.D → Option pcontains.X := fun d => pcontains.E.run (pcontains.st d).1 (pcontains.st d).2
theorem pcontains.run {d : pcontains.D} (h : pcontains.Pre d) : pcontains.call d = some (pcontains.add d (pcontains.F d)) := Entry.of_run pcontains.inj h
theorem pcontains.does : Does Try.prog 39 pcontains.E := Does.of (by kernel_rfl) (show Sound _ pcontains.G from Sound.cons pindex.does (Sound.nil _)) (by kernel_rfl) (by kernel_rfl) (by kernel_rfl) (LOk.fn 0 (by kernel_rfl) trivial) pcontains.ok

/-! ### corsned/lock.height -/
abbrev lheight.D := Int
def lheight.st : lheight.D → List AVal × List Ent := fun n => ([.d (.int .i64) n], [])
abbrev lheight.Y := Bool
abbrev lheight.X := Bool
def lheight.out : lheight.X → GRes := fun x => ⟨.d .bool x, [], []⟩
def lheight.add : lheight.D → lheight.Y → lheight.X := fun n y => y


def lheight.Pre : lheight.D → Prop := fun _ => True
def lheight.F : lheight.D → lheight.Y := fun n => htOk n

noncomputable def lheight.G : Gam := gnil
noncomputable def lheight.an : Ann := {
  objs := [],
  loops := fun r => { keep := [], sites := [], frz := [], data := [], owns := [] },
  outs := fun r b => { keep := [], sites := [], frz := [], data := [], owns := [] },
  sums := fun r => none,
  owns := [],
  trim := [],
  res := [] }
theorem lheight.eq {R : Type} (n : Int) (k : GRes → Option R) : arun Try.prog lheight.G lheight.an 0 Try.f40 (lheight.st n).1 (lheight.st n).2 k =
  sel ((ige n (0 : Int))) (
   k (lheight.out (ile n (1048576 : Int)))) (
   k (lheight.out false)) := by kernel_rfl


theorem lheight.ok : ∀ d, lheight.Pre d → arun Try.prog lheight.G lheight.an 0 Try.f40 (lheight.st d).1 (lheight.st d).2 some = some (lheight.out (lheight.add d (lheight.F d))) := by
  intro n _
  rw [lheight.eq]
  simp only [lheight.add, lheight.F, htOk]
  by_cases h : 0 ≤ n
  · rw [ige_true h, sel_true]
    by_cases h2 : n ≤ 1048576
    · rw [ile_true h2, dec_true ⟨h, h2⟩]
    · rw [ile_false h2, dec_false (fun x => h2 x.2)]
  · rw [ige_false h, sel_false, dec_false (fun x => h x.1)]

theorem lheight.inj : ∀ d d', lheight.st d = lheight.st d' → d = d' := fun n n' hEq => by
  have e0 : n = n' := d_inj (t := (.int .i64)) (congrArg (fun s : List AVal × List Ent => (s.1.getD 0 .undef)) hEq)
  rw [e0]
noncomputable def lheight.E : Entry := Entry.of [some (.int .i64)] lheight.st lheight.Pre (fun d => lheight.add d (lheight.F d)) lheight.out
noncomputable def lheight.call : lheight.D → Option lheight.X := fun d => lheight.E.run (lheight.st d).1 (lheight.st d).2
theorem lheight.run {d : lheight.D} (h : lheight.Pre d) : lheight.call d = some (lheight.add d (lheight.F d)) := Entry.of_run lheight.inj h
theorem lheight.does : Does Try.prog 40 lheight.E := Does.of (by kernel_rfl) (show Sound _ lheight.G from Sound.nil _) (by kernel_rfl) (by kernel_rfl) (by kernel_rfl) (LOk.fn 0 (by kernel_rfl) trivial) lheight.ok

end Go.Ab
