/-
  Made by a program of mine (wip/gen), and by hand.
-/
import Derived.Test.YtglpcfdjdabdnaaLk2
namespace Go.Ab
open Go.Proofs
set_option maxRecDepth 100000
set_option linter.unusedVariables false
set_option linter.unusedSimpArgs false

/-! ### slices.Clone[[]corsned/api.Point,corsned/api.Point] -/
abbrev pclone.D := (List Int)
def pclone.st : pclone.D → List AVal × List Ent := fun sv => ([.d (.slice (.int .u64)) sv], [])
abbrev pclone.Y := (List Int)
abbrev pclone.X := (List Int)
def pclone.out : pclone.X → GRes := fun x => ⟨.d (.slice (.int .u64)) x, [], []⟩
def pclone.add : pclone.D → pclone.Y → pclone.X := fun sv y => y


def pclone.Pre : pclone.D → Prop := fun l => l.length ≤ 1000000
def pclone.F : pclone.D → pclone.Y := fun l => l

noncomputable def pclone.G : Gam := gnil
noncomputable def pclone.an : Ann := {
  objs := [5],
  loops := fun r => { keep := [], sites := [], frz := [], data := [], owns := [] },
  outs := fun r b => { keep := [], sites := [], frz := [], data := [], owns := [] },
  sums := fun r => none,
  owns := [],
  trim := [],
  res := [some (.slice (.int .u64))] }
theorem pclone.eq {R : Type} (sv : (List Int)) (k : GRes → Option R) : arun Try.prog pclone.G pclone.an 0 Try.f42 (pclone.st sv).1 (pclone.st sv).2 k =
  sel (decide (0 < (List.length sv))) (
   sel (roomA (0 + (List.length sv)) 8) (
   sel (decide (0 = 0 ∧ (0 + (0 + (List.length sv))) ≤ (List.length ((List.take 0 (List.replicate 0 (0 : Int))) ++ sv)))) (
   k (pclone.out (cut ((List.take 0 (List.replicate 0 (0 : Int))) ++ sv) 0 (0 + (List.length sv))))) none) none) (
   nd (
    k (pclone.out ([] : List Int))) (
    sel (roomA (0 + (List.length sv)) 8) (
    sel (decide (0 = 0 ∧ (0 + (0 + (List.length sv))) ≤ (List.length ((List.take 0 (List.replicate 0 (0 : Int))) ++ sv)))) (
    k (pclone.out (cut ((List.take 0 (List.replicate 0 (0 : Int))) ++ sv) 0 (0 + (List.length sv))))) none) none)) := by kernel_rfl


theorem pclone.ok : ∀ d, pclone.Pre d → arun Try.prog pclone.G pclone.an 0 Try.f42 (pclone.st d).1 (pclone.st d).2 some = some (pclone.out (pclone.add d (pclone.F d))) := by
  intro l hl
  have hl : l.length ≤ 1000000 := hl
  have hr : roomA l.length 8 = true := room_true (by omega) (by omega)
  have e0 : (List.take 0 (List.replicate 0 0) : List Int) = [] := rfl
  rw [pclone.eq]
  simp only [Nat.zero_add, hr, sel_true, e0, List.nil_append, Nat.le_refl, and_self, decide_true, cut_len, pclone.add, pclone.F]
  by_cases h : 0 < l.length
  · simp only [dec_true h, sel_true]
  · have : l = [] := List.eq_nil_of_length_eq_zero (by omega)
    subst this
    simp only [List.length_nil, nd_same, dec_false (Nat.lt_irrefl 0), sel_false]

theorem pclone.inj : ∀ d d', pclone.st d = pclone.st d' → d = d' := fun sv sv' hEq => by
  have e0 : sv = sv' := d_inj (t := (.slice (.int .u64))) (congrArg (fun s : List AVal × List Ent => (s.1.getD 0 .undef)) hEq)
  rw [e0]
noncomputable def pclone.E : Entry := Entry.of [some (.slice (.int .u64))] pclone.st pclone.Pre (fun d => pclone.add d (pclone.F d)) pclone.out
noncomputable def pclone.call : pclone.D → Option pclone.X := fun d => pclone.E.run (pclone.st d).1 (pclone.st d).2
theorem pclone.run {d : pclone.D} (h : pclone.Pre d) : pclone.call d = some (pclone.add d (pclone.F d)) := Entry.of_run pclone.inj h
theorem pclone.does : Does Try.prog 42 pclone.E := Does.of (by kernel_rfl) (show Sound _ pclone.G from Sound.nil _) (by kernel_rfl) (by kernel_rfl) (by kernel_rfl) (LOk.fn 0 (by kernel_rfl) trivial) pclone.ok


def allL (l : List Int) : Lk := ([(l, 0, 0, 0, ())], ())
def lateL (own rev delay : Int) : Lk := ([([rev], 0, 0, 0, ()), ([own], 0, delay, 0, ())], ())
def anchorL (own : Int) : Lk := ([([own], 0, 0, 0, ()), ([], 0, 16, 0, ())], ())

/-! ### corsned/lock.All -/
abbrev lall.D := (List Int)
def lall.st : lall.D → List AVal × List Ent := fun l => ([.d (.slice (.int .u64)) l], [])
abbrev lall.Y := ((List ((List Int) × (Int × (Int × (Int × Unit))))) × Unit)
abbrev lall.X := ((List ((List Int) × (Int × (Int × (Int × Unit))))) × Unit)
def lall.out : lall.X → GRes := fun x => ⟨.d (.pair (.slice (.pair (.slice (.int .u64)) (.pair (.int .i64) (.pair (.int .i64) (.pair (.int .u64) .unit))))) .unit) x, [], []⟩
def lall.add : lall.D → lall.Y → lall.X := fun l y => y


def lall.Pre : lall.D → Prop := fun l => l.length ≤ 1000000
def lall.F : lall.D → lall.Y := fun l => allL l

noncomputable def lall.G : Gam := gcons 42 anyArgs pclone.E (gnil)
noncomputable def lall.an : Ann := {
  objs := [],
  loops := fun r => { keep := [], sites := [], frz := [], data := [], owns := [] },
  outs := fun r b => { keep := [], sites := [], frz := [], data := [], owns := [] },
  sums := fun r => none,
  owns := [],
  trim := [],
  res := [] }
theorem lall.eq {R : Type} (l : (List Int)) (k : GRes → Option R) : arun Try.prog lall.G lall.an 0 Try.f18 (lall.st l).1 (lall.st l).2 k =
  obind (pclone.call l) fun x1 =>
  k (lall.out ([(x1, ((0 : Int), ((0 : Int), ((0 : Int), ()))))], ())) := by kernel_rfl


theorem lall.ok : ∀ d, lall.Pre d → arun Try.prog lall.G lall.an 0 Try.f18 (lall.st d).1 (lall.st d).2 some = some (lall.out (lall.add d (lall.F d))) := by
  intro l hl
  rw [lall.eq, pclone.run (d := l) hl]
  rfl

theorem lall.inj : ∀ d d', lall.st d = lall.st d' → d = d' := fun l l' hEq => by
  have e0 : l = l' := d_inj (t := (.slice (.int .u64))) (congrArg (fun s : List AVal × List Ent => (s.1.getD 0 .undef)) hEq)
  rw [e0]
noncomputable def lall.E : Entry := Entry.of [some (.slice (.int .u64))] lall.st lall.Pre (fun d => lall.add d (lall.F d)) lall.out
noncomputable def lall.call : lall.D → Option lall.X := fun d => lall.E.run (lall.st d).1 (lall.st d).2
theorem lall.run {d : lall.D} (h : lall.Pre d) : lall.call d = some (lall.add d (lall.F d)) := Entry.of_run lall.inj h
theorem lall.does : Does Try.prog 18 lall.E := Does.of (by kernel_rfl) (show Sound _ lall.G from Sound.cons pclone.does (Sound.nil _)) (by kernel_rfl) (by kernel_rfl) (by kernel_rfl) (LOk.fn 0 (by kernel_rfl) trivial) lall.ok

/-! ### corsned/lock.Key -/
abbrev lkey.D := Int
def lkey.st : lkey.D → List AVal × List Ent := fun p => ([.d (.int .u64) p], [])
abbrev lkey.Y := ((List ((List Int) × (Int × (Int × (Int × Unit))))) × Unit)
abbrev lkey.X := ((List ((List Int) × (Int × (Int × (Int × Unit))))) × Unit)
def lkey.out : lkey.X → GRes := fun x => ⟨.d (.pair (.slice (.pair (.slice (.int .u64)) (.pair (.int .i64) (.pair (.int .i64) (.pair (.int .u64) .unit))))) .unit) x, [], []⟩
def lkey.add : lkey.D → lkey.Y → lkey.X := fun p y => y


def lkey.Pre : lkey.D → Prop := fun _ => True
def lkey.F : lkey.D → lkey.Y := fun p => allL [p]

noncomputable def lkey.G : Gam := gcons 18 anyArgs lall.E (gnil)
noncomputable def lkey.an : Ann := {
  objs := [],
  loops := fun r => { keep := [], sites := [], frz := [], data := [], owns := [] },
  outs := fun r b => { keep := [], sites := [], frz := [], data := [], owns := [] },
  sums := fun r => none,
  owns := [],
  trim := [],
  res := [] }
theorem lkey.eq {R : Type} (p : Int) (k : GRes → Option R) : arun Try.prog lkey.G lkey.an 0 Try.f16 (lkey.st p).1 (lkey.st p).2 k =
  obind (lall.call [p]) fun x1 =>
  k (lkey.out x1) := by kernel_rfl


theorem lkey.ok : ∀ d, lkey.Pre d → arun Try.prog lkey.G lkey.an 0 Try.f16 (lkey.st d).1 (lkey.st d).2 some = some (lkey.out (lkey.add d (lkey.F d))) := by
  intro p _
  rw [lkey.eq, lall.run (d := [p]) (by show [p].length ≤ _; simp)]
  rfl

theorem lkey.inj : ∀ d d', lkey.st d = lkey.st d' → d = d' := fun p p' hEq => by
  have e0 : p = p' := d_inj (t := (.int .u64)) (congrArg (fun s : List AVal × List Ent => (s.1.getD 0 .undef)) hEq)
  rw [e0]
noncomputable def lkey.E : Entry := Entry.of [some (.int .u64)] lkey.st lkey.Pre (fun d => lkey.add d (lkey.F d)) lkey.out
noncomputable def lkey.call : lkey.D → Option lkey.X := fun d => lkey.E.run (lkey.st d).1 (lkey.st d).2
theorem lkey.run {d : lkey.D} (h : lkey.Pre d) : lkey.call d = some (lkey.add d (lkey.F d)) := Entry.of_run lkey.inj h
theorem lkey.does : Does Try.prog 16 lkey.E := Does.of (by kernel_rfl) (show Sound _ lkey.G from Sound.cons lall.does (Sound.nil _)) (by kernel_rfl) (by kernel_rfl) (by kernel_rfl) (LOk.fn 0 (by kernel_rfl) trivial) lkey.ok

/-! ### corsned/lock.Both -/
abbrev lboth.D := Int × Int
def lboth.st : lboth.D → List AVal × List Ent := fun (a, b) => ([.d (.int .u64) a, .d (.int .u64) b], [])
abbrev lboth.Y := ((List ((List Int) × (Int × (Int × (Int × Unit))))) × Unit)
abbrev lboth.X := ((List ((List Int) × (Int × (Int × (Int × Unit))))) × Unit)
def lboth.out : lboth.X → GRes := fun x => ⟨.d (.pair (.slice (.pair (.slice (.int .u64)) (.pair (.int .i64) (.pair (.int .i64) (.pair (.int .u64) .unit))))) .unit) x, [], []⟩
def lboth.add : lboth.D → lboth.Y → lboth.X := fun (a, b) y => y


def lboth.Pre : lboth.D → Prop := fun _ => True
def lboth.F : lboth.D → lboth.Y := fun (p, q) => allL [p, q]

noncomputable def lboth.G : Gam := gcons 18 anyArgs lall.E (gnil)
noncomputable def lboth.an : Ann := {
  objs := [],
  loops := fun r => { keep := [], sites := [], frz := [], data := [], owns := [] },
  outs := fun r b => { keep := [], sites := [], frz := [], data := [], owns := [] },
  sums := fun r => none,
  owns := [],
  trim := [],
  res := [] }
theorem lboth.eq {R : Type} (a : Int) (b : Int) (k : GRes → Option R) : arun Try.prog lboth.G lboth.an 0 Try.f17 (lboth.st (a, b)).1 (lboth.st (a, b)).2 k =
  obind (lall.call [a, b]) fun x1 =>
  k (lboth.out x1) := by kernel_rfl


theorem lboth.ok : ∀ d, lboth.Pre d → arun Try.prog lboth.G lboth.an 0 Try.f17 (lboth.st d).1 (lboth.st d).2 some = some (lboth.out (lboth.add d (lboth.F d))) := by
  rintro ⟨p, q⟩ _
  rw [lboth.eq, lall.run (d := [p, q]) (by show [p, q].length ≤ _; simp)]
  rfl

theorem lboth.inj : ∀ d d', lboth.st d = lboth.st d' → d = d' := fun (a, b) (a', b') hEq => by
  have e0 : a = a' := d_inj (t := (.int .u64)) (congrArg (fun s : List AVal × List Ent => (s.1.getD 0 .undef)) hEq)
  have e1 : b = b' := d_inj (t := (.int .u64)) (congrArg (fun s : List AVal × List Ent => (s.1.getD 1 .undef)) hEq)
  rw [e0, e1]
noncomputable def lboth.E : Entry := Entry.of [some (.int .u64), some (.int .u64)] lboth.st lboth.Pre (fun d => lboth.add d (lboth.F d)) lboth.out
noncomputable def lboth.call : lboth.D → Option lboth.X := fun d => lboth.E.run (lboth.st d).1 (lboth.st d).2
theorem lboth.run {d : lboth.D} (h : lboth.Pre d) : lboth.call d = some (lboth.add d (lboth.F d)) := Entry.of_run lboth.inj h
theorem lboth.does : Does Try.prog 17 lboth.E := Does.of (by kernel_rfl) (show Sound _ lboth.G from Sound.cons lall.does (Sound.nil _)) (by kernel_rfl) (by kernel_rfl) (by kernel_rfl) (LOk.fn 0 (by kernel_rfl) trivial) lboth.ok

/-! ### corsned/lock.Late -/
abbrev llate.D := Int × Int × Int
def llate.st : llate.D → List AVal × List Ent := fun (own, rev, delay) => ([.d (.int .u64) own, .d (.int .u64) rev, .d (.int .i64) delay], [])
abbrev llate.Y := ((List ((List Int) × (Int × (Int × (Int × Unit))))) × Unit)
abbrev llate.X := ((List ((List Int) × (Int × (Int × (Int × Unit))))) × Unit)
def llate.out : llate.X → GRes := fun x => ⟨.d (.pair (.slice (.pair (.slice (.int .u64)) (.pair (.int .i64) (.pair (.int .i64) (.pair (.int .u64) .unit))))) .unit) x, [], []⟩
def llate.add : llate.D → llate.Y → llate.X := fun (own, rev, delay) y => y


def llate.Pre : llate.D → Prop := fun _ => True
def llate.F : llate.D → llate.Y := fun (o, r, d) => lateL o r d

noncomputable def llate.G : Gam := gnil
noncomputable def llate.an : Ann := {
  objs := [],
  loops := fun r => { keep := [], sites := [], frz := [], data := [], owns := [] },
  outs := fun r b => { keep := [], sites := [], frz := [], data := [], owns := [] },
  sums := fun r => none,
  owns := [],
  trim := [],
  res := [] }
theorem llate.eq {R : Type} (own : Int) (rev : Int) (delay : Int) (k : GRes → Option R) : arun Try.prog llate.G llate.an 0 Try.f19 (llate.st (own, rev, delay)).1 (llate.st (own, rev, delay)).2 k =
  k (llate.out ([([rev], ((0 : Int), ((0 : Int), ((0 : Int), ())))), ([own], ((0 : Int), (delay, ((0 : Int), ()))))], ())) := by kernel_rfl


theorem llate.ok : ∀ d, llate.Pre d → arun Try.prog llate.G llate.an 0 Try.f19 (llate.st d).1 (llate.st d).2 some = some (llate.out (llate.add d (llate.F d))) := by
  rintro ⟨o, r, d⟩ _
  rw [llate.eq]
  rfl

theorem llate.inj : ∀ d d', llate.st d = llate.st d' → d = d' := fun (own, rev, delay) (own', rev', delay') hEq => by
  have e0 : own = own' := d_inj (t := (.int .u64)) (congrArg (fun s : List AVal × List Ent => (s.1.getD 0 .undef)) hEq)
  have e1 : rev = rev' := d_inj (t := (.int .u64)) (congrArg (fun s : List AVal × List Ent => (s.1.getD 1 .undef)) hEq)
  have e2 : delay = delay' := d_inj (t := (.int .i64)) (congrArg (fun s : List AVal × List Ent => (s.1.getD 2 .undef)) hEq)
  rw [e0, e1, e2]
noncomputable def llate.E : Entry := Entry.of [some (.int .u64), some (.int .u64), some (.int .i64)] llate.st llate.Pre (fun d => llate.add d (llate.F d)) llate.out
noncomputable def llate.call : llate.D → Option llate.X := fun d => llate.E.run (llate.st d).1 (llate.st d).2
theorem llate.run {d : llate.D} (h : llate.Pre d) : llate.call d = some (llate.add d (llate.F d)) := Entry.of_run llate.inj h
theorem llate.does : Does Try.prog 19 llate.E := Does.of (by kernel_rfl) (show Sound _ llate.G from Sound.nil _) (by kernel_rfl) (by kernel_rfl) (by kernel_rfl) (LOk.fn 0 (by kernel_rfl) trivial) llate.ok

/-! ### corsned/lock.Anchor -/
abbrev lanchor.D := Int
def lanchor.st : lanchor.D → List AVal × List Ent := fun own => ([.d (.int .u64) own], [])
abbrev lanchor.Y := ((List ((List Int) × (Int × (Int × (Int × Unit))))) × Unit)
abbrev lanchor.X := ((List ((List Int) × (Int × (Int × (Int × Unit))))) × Unit)
def lanchor.out : lanchor.X → GRes := fun x => ⟨.d (.pair (.slice (.pair (.slice (.int .u64)) (.pair (.int .i64) (.pair (.int .i64) (.pair (.int .u64) .unit))))) .unit) x, [], []⟩
def lanchor.add : lanchor.D → lanchor.Y → lanchor.X := fun own y => y


def lanchor.Pre : lanchor.D → Prop := fun _ => True
def lanchor.F : lanchor.D → lanchor.Y := fun o => anchorL o

noncomputable def lanchor.G : Gam := gnil
noncomputable def lanchor.an : Ann := {
  objs := [],
  loops := fun r => { keep := [], sites := [], frz := [], data := [], owns := [] },
  outs := fun r b => { keep := [], sites := [], frz := [], data := [], owns := [] },
  sums := fun r => none,
  owns := [],
  trim := [],
  res := [] }
theorem lanchor.eq {R : Type} (own : Int) (k : GRes → Option R) : arun Try.prog lanchor.G lanchor.an 0 Try.f20 (lanchor.st own).1 (lanchor.st own).2 k =
  k (lanchor.out ([([own], ((0 : Int), ((0 : Int), ((0 : Int), ())))), (([] : List Int), ((0 : Int), ((16 : Int), ((0 : Int), ()))))], ())) := by kernel_rfl


theorem lanchor.ok : ∀ d, lanchor.Pre d → arun Try.prog lanchor.G lanchor.an 0 Try.f20 (lanchor.st d).1 (lanchor.st d).2 some = some (lanchor.out (lanchor.add d (lanchor.F d))) := by
  intro o _
  rw [lanchor.eq]
  rfl

theorem lanchor.inj : ∀ d d', lanchor.st d = lanchor.st d' → d = d' := fun own own' hEq => by
  have e0 : own = own' := d_inj (t := (.int .u64)) (congrArg (fun s : List AVal × List Ent => (s.1.getD 0 .undef)) hEq)
  rw [e0]
noncomputable def lanchor.E : Entry := Entry.of [some (.int .u64)] lanchor.st lanchor.Pre (fun d => lanchor.add d (lanchor.F d)) lanchor.out
noncomputable def lanchor.call : lanchor.D → Option lanchor.X := fun d => lanchor.E.run (lanchor.st d).1 (lanchor.st d).2
theorem lanchor.run {d : lanchor.D} (h : lanchor.Pre d) : lanchor.call d = some (lanchor.add d (lanchor.F d)) := Entry.of_run lanchor.inj h
theorem lanchor.does : Does Try.prog 20 lanchor.E := Does.of (by kernel_rfl) (show Sound _ lanchor.G from Sound.nil _) (by kernel_rfl) (by kernel_rfl) (by kernel_rfl) (LOk.fn 0 (by kernel_rfl) trivial) lanchor.ok

/-! ### corsned/corsnedlaw12.signed -/
abbrev wsigned.L0.D := (List Int) × (List Int) × Int × Int × (Int × Unit) × Int × Nat × (Int × Unit) × (List (Int × (Int × Unit)))
def wsigned.L0.st : wsigned.L0.D → AS := fun (keys_2, m_2, i, n8, n8_2, n9, n9L, n9_2, n29) => ⟨([.undef, .d (.slice (.int .u64)) keys_2] ++ undN 4 ([.rptr (.arr 32 (.int .u8)) m_2, .undef, .ptr (.new 8 0) 0 [] 0, .ptr (.new 9 0) 0 [] 0, .d (.int .i64) i] ++ undN 21 [])), [], (nilN 8 ([[.obj 0 false (.pr (.d (.int .i64) n8) (.pr (.nils) (.d (.pair (.int .u64) .unit) n8_2)))], [.obj 0 false (.pr (.d (.int .i64) n9) (.pr (.sref (.new 29 0) 0 [] 0 0 n9L) (.d (.pair (.int .u64) .unit) n9_2)))]] ++ nilN 19 [[.obj 0 false (.vec 68 (.pair (.int .u64) (.pair (.int .u64) .unit)) n29)], [], []]))⟩
abbrev wsigned.L0.Y0 := Nat × (List (Int × (Int × Unit)))  -- n9L, n29
abbrev wsigned.L0.X0 := (Int × (Int × Unit) × Int × (Int × Unit)) × (Nat × (List (Int × (Int × Unit))))
def wsigned.L0.ex0 : wsigned.L0.X0 → Exit × AS := fun x => (.exit 0, ⟨(undN 8 ([.ptr (.new 8 0) 0 [] 0, .ptr (.new 9 0) 0 [] 0] ++ undN 22 [])), [], (nilN 8 ([[.obj 0 false (.pr (.d (.int .i64) x.1.1) (.pr (.nils) (.d (.pair (.int .u64) .unit) x.1.2.1)))], [.obj 0 false (.pr (.d (.int .i64) x.1.2.2.1) (.pr (.sref (.new 29 0) 0 [] 0 0 x.2.1) (.d (.pair (.int .u64) .unit) x.1.2.2.2)))]] ++ nilN 19 [[.obj 0 false (.vec 68 (.pair (.int .u64) (.pair (.int .u64) .unit)) x.2.2)], [], []]))⟩)
abbrev wsigned.L0.X := wsigned.L0.X0
abbrev wsigned.L0.Y := wsigned.L0.Y0
def wsigned.L0.out : wsigned.L0.X → Out (Exit × AS) := fun x => .ok (wsigned.L0.ex0 x)
def wsigned.L0.add : wsigned.L0.D → wsigned.L0.Y → wsigned.L0.X := fun (keys_2, m_2, i, n8, n8_2, n9, n9L, n9_2, n29) y => ((n8, n8_2, n9, n9_2), y)
abbrev wsigned.D := Int × (List Int) × (List Int) × Int
def wsigned.st : wsigned.D → List AVal × List Ent := fun (branch, keys, m, secret) => ([.d (.int .i64) branch, .d (.slice (.int .u64)) keys, .d (.arr 32 (.int .u8)) m, .d (.int .u64) secret], [])
abbrev wsigned.Y := (Int × ((List (Int × (Int × Unit))) × (Int × Unit)))
abbrev wsigned.X := (Int × ((List (Int × (Int × Unit))) × (Int × Unit)))
def wsigned.out : wsigned.X → GRes := fun x => ⟨.d (.pair (.int .i64) (.pair (.slice (.pair (.int .u64) (.pair (.int .u64) .unit))) (.pair (.int .u64) .unit))) x, [], []⟩
def wsigned.add : wsigned.D → wsigned.Y → wsigned.X := fun (branch, keys, m, secret) y => y


def wsigned.L0.Pre : wsigned.L0.D → Prop := fun (ks, m, i, a, b, c, n, d, l) => KeysU ks ∧ Sm m ∧ ks.length ≤ 1000000 ∧ ∃ k : Nat, k ≤ ks.length ∧ i = k ∧ k = n ∧ l = (ks.take k).map fun k => signQ k m
def wsigned.L0.F : wsigned.L0.D → wsigned.L0.Y := fun (ks, m, i, a, b, c, n, d, l) => (ks.length, ks.map fun k => signQ k m)
def signedW (branch : Int) (ks : List Int) (m : List Int) (secret : Int) : Wit := (branch, ks.map (fun k => signQ k m), secret, ())
def wsigned.Pre : wsigned.D → Prop := fun (b, ks, m, s) => KeysU ks ∧ Sm m ∧ ks.length ≤ 1000000
def wsigned.F : wsigned.D → wsigned.Y := fun (b, ks, m, s) => signedW b ks m s

noncomputable def wsigned.G : Gam := gcons 37 anyArgs ssign.E (gnil)
noncomputable def wsigned.L0.E : LEntry := LEntry.of wsigned.L0.st wsigned.L0.Pre (fun d => wsigned.L0.add d (wsigned.L0.F d)) wsigned.L0.out
noncomputable def wsigned.L0.call : wsigned.L0.D → Option wsigned.L0.X := fun d => wsigned.L0.E.run (wsigned.L0.st d)
noncomputable def wsigned.an : Ann := {
  objs := [],
  loops := fun r => bif Nat.beq r 3 then { keep := [1, 6, 8, 9, 10], sites := [8, 9, 29], frz := [], data := [], owns := [⟨9, [.snd, .fst], 29, 25⟩] } else { keep := [], sites := [], frz := [], data := [], owns := [] },
  outs := fun r b => bif Nat.beq r 3 then (bif b then { keep := [8], sites := [], frz := [], data := [], owns := [] } else { keep := [8, 9], sites := [8, 9, 29], frz := [], data := [], owns := [] }) else { keep := [], sites := [], frz := [], data := [], owns := [] },
  sums := fun r => bif Nat.beq r 3 then some wsigned.L0.E else none,
  owns := [],
  trim := [],
  res := [some (.pair (.int .i64) (.pair (.slice (.pair (.int .u64) (.pair (.int .u64) .unit))) (.pair (.int .u64) .unit)))] }
theorem wsigned.L0.inj : ∀ d d', wsigned.L0.st d = wsigned.L0.st d' → d = d' := fun (keys_2, m_2, i, n8, n8_2, n9, n9L, n9_2, n29) (keys_2', m_2', i', n8', n8_2', n9', n9L', n9_2', n29') hEq => by
  have e0 : keys_2 = keys_2' := d_inj (t := (.slice (.int .u64))) (congrArg (fun s : AS => (s.slot 1)) hEq)
  have e1 : m_2 = m_2' := rptr_inj (t := (.arr 32 (.int .u8))) (congrArg (fun s : AS => (s.slot 6)) hEq)
  have e2 : i = i' := d_inj (t := (.int .i64)) (congrArg (fun s : AS => (s.slot 10)) hEq)
  have e3 : n8 = n8' := d_inj (t := (.int .i64)) (congrArg (fun s : AS => (prA (entC (s.ent (.new 8 0))))) hEq)
  have e4 : n8_2 = n8_2' := d_inj (t := (.pair (.int .u64) .unit)) (congrArg (fun s : AS => (prB (prB (entC (s.ent (.new 8 0)))))) hEq)
  have e5 : n9 = n9' := d_inj (t := (.int .i64)) (congrArg (fun s : AS => (prA (entC (s.ent (.new 9 0))))) hEq)
  have e6 : n9L = n9L' := congrArg (fun s : AS => srefLen (prA (prB (entC (s.ent (.new 9 0)))))) hEq
  have e7 : n9_2 = n9_2' := d_inj (t := (.pair (.int .u64) .unit)) (congrArg (fun s : AS => (prB (prB (entC (s.ent (.new 9 0)))))) hEq)
  have e8 : n29 = n29' := vec_inj (e := 68) (t := (.pair (.int .u64) (.pair (.int .u64) .unit))) (congrArg (fun s : AS => (entC (s.ent (.new 29 0)))) hEq)
  rw [e0, e1, e2, e3, e4, e5, e6, e7, e8]
theorem wsigned.L0.run {d : wsigned.L0.D} (h : wsigned.L0.Pre d) : wsigned.L0.call d = some (wsigned.L0.add d (wsigned.L0.F d)) := LEntry.of_run wsigned.L0.inj h
theorem wsigned.L0.byRounds (μ : wsigned.L0.D → Nat) (h : ∀ d, wsigned.L0.Pre d → (∃ d', wsigned.L0.Pre d' ∧ μ d' < μ d ∧ wsigned.L0.add d' (wsigned.L0.F d') = wsigned.L0.add d (wsigned.L0.F d) ∧ ∀ {R : Type} (kn : AS → Option R) (kx : Exit → AS → Option R), lround Try.prog wsigned.G wsigned.an 0 Try.f13 0 (wsigned.L0.st d) kn kx = kn (wsigned.L0.st d')) ∨ (∀ {R : Type} (kn : AS → Option R) (kx : Exit → AS → Option R), lround Try.prog wsigned.G wsigned.an 0 Try.f13 0 (wsigned.L0.st d) kn kx = kx (wsigned.L0.ex0 (wsigned.L0.add d (wsigned.L0.F d))).1 (wsigned.L0.ex0 (wsigned.L0.add d (wsigned.L0.F d))).2)) : ∀ d, wsigned.L0.Pre d → ∃ n, lrun Try.prog wsigned.G wsigned.an 0 Try.f13 0 n (wsigned.L0.st d) (fun e s => some (e, s)) = (wsigned.L0.out (wsigned.L0.add d (wsigned.L0.F d))).eval := lrun_one (F := fun d => wsigned.L0.add d (wsigned.L0.F d)) μ h
theorem wsigned.L0.step {R : Type} (keys_2 : (List Int)) (m_2 : (List Int)) (i : Int) (n8 : Int) (n8_2 : (Int × Unit)) (n9 : Int) (n9L : Nat) (n9_2 : (Int × Unit)) (n29 : (List (Int × (Int × Unit)))) (kn : AS → Option R) (kx : Exit → AS → Option R) : lround Try.prog wsigned.G wsigned.an 0 Try.f13 0 (wsigned.L0.st (keys_2, m_2, i, n8, n8_2, n9, n9L, n9_2, n29)) kn kx =
  sel ((ilt i (((List.length keys_2) : Nat) : Int))) (
   sel (inb i (((List.length keys_2) : Nat) : Int)) (
   obind (ssign.call ((nth (.int .u64) keys_2 (Int.toNat i)), m_2)) fun x1 =>
   sel (decide (n9L ≤ (List.length n29))) (
   sel (roomA (n9L + 1) 16) (
   kn (wsigned.L0.st (keys_2, m_2, (iadd .i64 i (1 : Int)), n8, n8_2, n9, (n9L + 1), n9_2, ((List.take n9L n29) ++ [x1])))) none) none) none) (
   kx (wsigned.L0.ex0 ((n8, n8_2, n9, n9_2), (n9L, n29))).1 (wsigned.L0.ex0 ((n8, n8_2, n9, n9_2), (n9L, n29))).2) := by kernel_rfl
theorem wsigned.eq {R : Type} (branch : Int) (keys : (List Int)) (m : (List Int)) (secret : Int) (k : GRes → Option R) : arun Try.prog wsigned.G wsigned.an 0 Try.f13 (wsigned.st (branch, keys, m, secret)).1 (wsigned.st (branch, keys, m, secret)).2 k =
  obind (wsigned.L0.call (keys, m, (0 : Int), (0 : Int), ((0 : Int), ()), branch, 0, (secret, ()), ([] : List (Int × (Int × Unit))))) fun x3 =>
  sel (decide (0 = 0 ∧ (0 + x3.2.1) ≤ (List.length x3.2.2))) (
  k (wsigned.out (x3.1.2.2.1, ((cut x3.2.2 0 x3.2.1), x3.1.2.2.2)))) none := by kernel_rfl


theorem wsigned.L0.ok : ∀ d, wsigned.L0.Pre d → ∃ n, lrun Try.prog wsigned.G wsigned.an 0 Try.f13 0 n (wsigned.L0.st d) (fun e s => some (e, s)) = (wsigned.L0.out (wsigned.L0.add d (wsigned.L0.F d))).eval := by
  refine wsigned.L0.byRounds (fun (ks, m, i, a, b, c, n, d, l) => ks.length - i.toNat) ?_
  rintro ⟨ks, m, i, a, b, c, n, d, l⟩ ⟨hl, hm, hb, k, hk, rfl, rfl, rfl⟩
  have hb : ks.length ≤ 1000000 := hb
  have hk : k ≤ ks.length := hk
  have ll : ((ks.take k).map fun k => signQ k m).length = k := by rw [List.length_map, List.length_take]; omega
  by_cases h : k < ks.length
  · left
    have hx := hl _ (List.getElem_mem h)
    have n1 : nth (.int .u64) ks k = ks[k] := nth_lt (t := .int .u64) h
    refine ⟨(ks, m, ((k + 1 : Nat) : Int), a, b, c, k + 1, d, (ks.take (k + 1)).map fun k => signQ k m), ⟨hl, hm, hb, k + 1, by omega, rfl, rfl, rfl⟩, by simp only [Int.toNat_natCast]; omega, rfl, fun kn kx => ?_⟩
    rw [wsigned.L0.step]
    simp (disch := omega) only [↓N.lt, ↓N.le, ↓N.gt, ↓N.ge, ↓N.eq, ↓N.ne, ↓N.ib, ↓N.ic, ↓N.nn, ↓N.nz, ↓N.dc, ↓N.rm, ↓N.an, ↓N.or, ↓N.no, ↓if_pos, ↓if_neg, ↓sel_true, ↓sel_false, ↓obind_some, if_pos, if_neg, obind_some, N.aNN, N.aNL, N.aLN, N.sNN, N.sNL, N.sLN, N.mNN, N.mNL, N.mLN, N.qNN, N.qNL, N.rNN, N.rNL, N.cN, N.cL, N.tL, Int.toNat_natCast, if_true, if_false, and_self, true_and, and_true, n1]
    rw [ssign.run (d := (ks[k], m)) ⟨hx, hm⟩]
    have e : (ks.take (k + 1)).map (fun k => signQ k m) = (ks.take k).map (fun k => signQ k m) ++ [signQ ks[k] m] := by rw [List.take_succ_eq_append_getElem h, List.map_append]; rfl
    rw [e]
    simp (disch := omega) only [↓N.lt, ↓N.le, ↓N.gt, ↓N.ge, ↓N.eq, ↓N.ne, ↓N.ib, ↓N.ic, ↓N.nn, ↓N.nz, ↓N.dc, ↓N.rm, ↓N.an, ↓N.or, ↓N.no, ↓if_pos, ↓if_neg, ↓sel_true, ↓sel_false, ↓obind_some, if_pos, if_neg, obind_some, N.aNN, N.aNL, N.aLN, N.sNN, N.sNL, N.sLN, N.mNN, N.mNL, N.mLN, N.qNN, N.qNL, N.rNN, N.rNL, N.cN, N.cL, N.tL, Int.toNat_natCast, if_true, if_false, and_self, true_and, and_true, ssign.add, ssign.F, ll, Nat.le_refl, List.take_of_length_le (Nat.le_of_eq ll)]
  · right
    obtain rfl : k = ks.length := by omega
    intro R kn kx
    rw [wsigned.L0.step]
    simp (disch := omega) only [↓N.lt, ↓N.le, ↓N.gt, ↓N.ge, ↓N.eq, ↓N.ne, ↓N.ib, ↓N.ic, ↓N.nn, ↓N.nz, ↓N.dc, ↓N.rm, ↓N.an, ↓N.or, ↓N.no, ↓if_pos, ↓if_neg, ↓sel_true, ↓sel_false, ↓obind_some, if_pos, if_neg, obind_some, N.aNN, N.aNL, N.aLN, N.sNN, N.sNL, N.sLN, N.mNN, N.mNL, N.mLN, N.qNN, N.qNL, N.rNN, N.rNL, N.cN, N.cL, N.tL, Int.toNat_natCast, if_true, if_false, and_self, true_and, and_true, wsigned.L0.add, wsigned.L0.F, List.take_length]
theorem wsigned.ok : ∀ d, wsigned.Pre d → arun Try.prog wsigned.G wsigned.an 0 Try.f13 (wsigned.st d).1 (wsigned.st d).2 some = some (wsigned.out (wsigned.add d (wsigned.F d))) := by
  rintro ⟨b, ks, m, s⟩ ⟨hl, hm, hb⟩
  rw [wsigned.eq, wsigned.L0.run (d := (ks, m, 0, 0, (0, ()), b, 0, (s, ()), [])) ⟨hl, hm, hb, 0, by omega, rfl, rfl, rfl⟩]
  simp only [obind_some, wsigned.L0.add, wsigned.L0.F, List.length_map, Nat.zero_add, Nat.le_refl, and_self, decide_true, sel_true]
  rw [cut_len (l := List.map (fun k => signQ k m) ks) (by rw [List.length_map])]
  rfl

theorem wsigned.inj : ∀ d d', wsigned.st d = wsigned.st d' → d = d' := fun (branch, keys, m, secret) (branch', keys', m', secret') hEq => by
  have e0 : branch = branch' := d_inj (t := (.int .i64)) (congrArg (fun s : List AVal × List Ent => (s.1.getD 0 .undef)) hEq)
  have e1 : keys = keys' := d_inj (t := (.slice (.int .u64))) (congrArg (fun s : List AVal × List Ent => (s.1.getD 1 .undef)) hEq)
  have e2 : m = m' := d_inj (t := (.arr 32 (.int .u8))) (congrArg (fun s : List AVal × List Ent => (s.1.getD 2 .undef)) hEq)
  have e3 : secret = secret' := d_inj (t := (.int .u64)) (congrArg (fun s : List AVal × List Ent => (s.1.getD 3 .undef)) hEq)
  rw [e0, e1, e2, e3]
noncomputable def wsigned.E : Entry := Entry.of [some (.int .i64), some (.slice (.int .u64)), some (.arr 32 (.int .u8)), some (.int .u64)] wsigned.st wsigned.Pre (fun d => wsigned.add d (wsigned.F d)) wsigned.out
noncomputable def wsigned.call : wsigned.D → Option wsigned.X := fun d => wsigned.E.run (wsigned.st d).1 (wsigned.st d).2
theorem wsigned.run {d : wsigned.D} (h : wsigned.Pre d) : wsigned.call d = some (wsigned.add d (wsigned.F d)) := Entry.of_run wsigned.inj h
theorem wsigned.does : Does Try.prog 13 wsigned.E := Does.of (by kernel_rfl) (show Sound _ wsigned.G from Sound.cons ssign.does (Sound.nil _)) (by kernel_rfl) (by kernel_rfl) (by kernel_rfl) (LOk.fn 1 (by kernel_rfl) (And.intro (LDo.of (by kernel_rfl) wsigned.L0.ok) trivial)) wsigned.ok

end Go.Ab
