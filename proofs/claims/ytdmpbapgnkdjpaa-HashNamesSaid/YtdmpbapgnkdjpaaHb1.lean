/-
  Made by a program of mine (wip/gen), and by hand.
-/
import Derived.Test.YtdmpbapgnkdjpaaRa4
namespace Go.Ab
open Go.Proofs
set_option maxRecDepth 100000
set_option linter.unusedVariables false
set_option linter.unusedSimpArgs false

/-! ### (*strings.Builder).copyCheck -/
abbrev bcc1.D := Unit
def bcc1.st : bcc1.D → List AVal × List Ent := fun _ => ([.ptr (.old 0) 0 [] 0], [.obj 0 false (.bx 69 (.pr (.nilp) (.pr (.nils) (.d .unit ()))))])
abbrev bcc1.Y := Unit
abbrev bcc1.X := Unit
def bcc1.out : bcc1.X → GRes := fun x => ⟨.nil, [.obj 0 false (.bx 69 (.pr (.ptr (.old 0) 0 [] 0) (.pr (.nils) (.d .unit ()))))], []⟩
def bcc1.add : bcc1.D → bcc1.Y → bcc1.X := fun _ y => y


def bcc1.Pre : bcc1.D → Prop := fun _ => True
def bcc1.F : bcc1.D → bcc1.Y := fun _ => ()

noncomputable def bcc1.G : Gam := gcons 59 anyArgs noEsc.E (gnil)
noncomputable def bcc1.an : Ann := {
  objs := [],
  loops := fun r => { keep := [], sites := [], frz := [], data := [], owns := [] },
  outs := fun r b => { keep := [], sites := [], frz := [], data := [], owns := [] },
  sums := fun r => none,
  owns := [],
  trim := [],
  res := [] }
theorem bcc1.eq {R : Type}  (k : GRes → Option R) : arun Try.prog bcc1.G bcc1.an 0 Try.f56 (bcc1.st ()).1 (bcc1.st ()).2 k =
  k (bcc1.out ()) := by kernel_rfl


theorem bcc1.ok : ∀ d, bcc1.Pre d → arun Try.prog bcc1.G bcc1.an 0 Try.f56 (bcc1.st d).1 (bcc1.st d).2 some = some (bcc1.out (bcc1.add d (bcc1.F d))) := by
  intro d _
  rw [bcc1.eq]

theorem bcc1.inj : ∀ d d', bcc1.st d = bcc1.st d' → d = d' := fun _ _ _ => rfl
noncomputable def bcc1.E : Entry := Entry.of [none] bcc1.st bcc1.Pre (fun d => bcc1.add d (bcc1.F d)) bcc1.out
noncomputable def bcc1.call : bcc1.D → Option bcc1.X := fun d => bcc1.E.run (bcc1.st d).1 (bcc1.st d).2
theorem bcc1.run {d : bcc1.D} (h : bcc1.Pre d) : bcc1.call d = some (bcc1.add d (bcc1.F d)) := Entry.of_run bcc1.inj h
theorem bcc1.does : Does Try.prog 56 bcc1.E := Does.of (by kernel_rfl) (show Sound _ bcc1.G from Sound.cons (noEsc.of (fn := Try.f59) (by kernel_rfl) (by kernel_rfl) (by kernel_rfl) (by kernel_rfl) (by kernel_rfl)) (Sound.nil _)) (by kernel_rfl) (by kernel_rfl) (by kernel_rfl) (LOk.fn 0 (by kernel_rfl) trivial) bcc1.ok

/-! ### (*strings.Builder).copyCheck -/
abbrev bcc2.D := Nat × (List Int)
def bcc2.st : bcc2.D → List AVal × List Ent := fun (o0baL, o1) => ([.ptr (.old 0) 0 [] 0], [.obj 0 false (.bx 69 (.pr (.ptr (.old 0) 0 [] 0) (.pr (.sref (.old 1) 0 [] 0 0 o0baL) (.d .unit ())))), .obj 0 false (.vec 5 (.int .u8) o1)])
abbrev bcc2.Y := Unit
abbrev bcc2.X := Nat × (List Int)
def bcc2.out : bcc2.X → GRes := fun x => ⟨.nil, [.obj 0 false (.bx 69 (.pr (.ptr (.old 0) 0 [] 0) (.pr (.sref (.old 1) 0 [] 0 0 x.1) (.d .unit ())))), .obj 0 false (.vec 5 (.int .u8) x.2)], []⟩
def bcc2.add : bcc2.D → bcc2.Y → bcc2.X := fun (o0baL, o1) y => (o0baL, o1)


def bcc2.Pre : bcc2.D → Prop := fun _ => True
def bcc2.F : bcc2.D → bcc2.Y := fun _ => ()

noncomputable def bcc2.G : Gam := gnil
noncomputable def bcc2.an : Ann := {
  objs := [],
  loops := fun r => { keep := [], sites := [], frz := [], data := [], owns := [] },
  outs := fun r b => { keep := [], sites := [], frz := [], data := [], owns := [] },
  sums := fun r => none,
  owns := [],
  trim := [],
  res := [] }
theorem bcc2.eq {R : Type} (o0baL : Nat) (o1 : (List Int)) (k : GRes → Option R) : arun Try.prog bcc2.G bcc2.an 0 Try.f56 (bcc2.st (o0baL, o1)).1 (bcc2.st (o0baL, o1)).2 k =
  k (bcc2.out (o0baL, o1)) := by kernel_rfl


theorem bcc2.ok : ∀ d, bcc2.Pre d → arun Try.prog bcc2.G bcc2.an 0 Try.f56 (bcc2.st d).1 (bcc2.st d).2 some = some (bcc2.out (bcc2.add d (bcc2.F d))) := by
  rintro ⟨n, l⟩ _
  rw [bcc2.eq]
  rfl

theorem bcc2.inj : ∀ d d', bcc2.st d = bcc2.st d' → d = d' := fun (o0baL, o1) (o0baL', o1') hEq => by
  have e0 : o0baL = o0baL' := congrArg (fun s : List AVal × List Ent => srefLen (prA (prB (bxC (entD (s.2.getD 0 .dead)))))) hEq
  have e1 : o1 = o1' := vec_inj (e := 5) (t := (.int .u8)) (congrArg (fun s : List AVal × List Ent => (entD (s.2.getD 1 .dead))) hEq)
  rw [e0, e1]
noncomputable def bcc2.E : Entry := Entry.of [none] bcc2.st bcc2.Pre (fun d => bcc2.add d (bcc2.F d)) bcc2.out
noncomputable def bcc2.call : bcc2.D → Option bcc2.X := fun d => bcc2.E.run (bcc2.st d).1 (bcc2.st d).2
theorem bcc2.run {d : bcc2.D} (h : bcc2.Pre d) : bcc2.call d = some (bcc2.add d (bcc2.F d)) := Entry.of_run bcc2.inj h
theorem bcc2.does : Does Try.prog 56 bcc2.E := Does.of (by kernel_rfl) (show Sound _ bcc2.G from Sound.nil _) (by kernel_rfl) (by kernel_rfl) (by kernel_rfl) (LOk.fn 0 (by kernel_rfl) trivial) bcc2.ok

noncomputable def bcc.E : Entry := Entry.alt oneOld [none] (X := bcc1.X) (Y := bcc2.X) bcc1.E.run bcc2.E.run bcc1.E.out bcc2.E.out
theorem bcc.does : Does Try.prog 56 bcc.E := Does.alt bcc1.does bcc2.does
/-! ### (*strings.Builder).WriteByte -/
abbrev bwb1.D := Int
def bwb1.st : bwb1.D → List AVal × List Ent := fun c => ([.ptr (.old 0) 0 [] 0, .d (.int .u8) c], [.obj 0 false (.bx 69 (.pr (.nilp) (.pr (.nils) (.d .unit ()))))])
abbrev bwb1.Y := (List Int)
abbrev bwb1.X := (List Int)
def bwb1.out : bwb1.X → GRes := fun x => ⟨.undef, [.obj 0 false (.bx 69 (.pr (.ptr (.old 0) 0 [] 0) (.pr (.sref (.new 0 0) 0 [] 0 0 1) (.d .unit ()))))], [.obj 0 false (.vec 5 (.int .u8) x)]⟩
def bwb1.add : bwb1.D → bwb1.Y → bwb1.X := fun c y => y


def bwb1.Pre : bwb1.D → Prop := fun _ => True
def bwb1.F : bwb1.D → bwb1.Y := fun c => [c]

noncomputable def bwb1.G : Gam := gcons 56 anyArgs bcc.E (gnil)
noncomputable def bwb1.an : Ann := {
  objs := [],
  loops := fun r => { keep := [], sites := [], frz := [], data := [], owns := [] },
  outs := fun r b => { keep := [], sites := [], frz := [], data := [], owns := [] },
  sums := fun r => none,
  owns := [],
  trim := [],
  res := [] }
theorem bwb1.eq {R : Type} (c : Int) (k : GRes → Option R) : arun Try.prog bwb1.G bwb1.an 0 Try.f45 (bwb1.st c).1 (bwb1.st c).2 k =
  obind (altL (Y := bcc2.X) (bcc1.call ())) fun x1 =>
  k (bwb1.out [c]) := by kernel_rfl


theorem bwb1.ok : ∀ d, bwb1.Pre d → arun Try.prog bwb1.G bwb1.an 0 Try.f45 (bwb1.st d).1 (bwb1.st d).2 some = some (bwb1.out (bwb1.add d (bwb1.F d))) := by
  intro c _
  rw [bwb1.eq, bcc1.run (d := ()) trivial]
  rfl

theorem bwb1.inj : ∀ d d', bwb1.st d = bwb1.st d' → d = d' := fun c c' hEq => by
  have e0 : c = c' := d_inj (t := (.int .u8)) (congrArg (fun s : List AVal × List Ent => (s.1.getD 1 .undef)) hEq)
  rw [e0]
noncomputable def bwb1.E : Entry := Entry.of [none, some (.int .u8)] bwb1.st bwb1.Pre (fun d => bwb1.add d (bwb1.F d)) bwb1.out
noncomputable def bwb1.call : bwb1.D → Option bwb1.X := fun d => bwb1.E.run (bwb1.st d).1 (bwb1.st d).2
theorem bwb1.run {d : bwb1.D} (h : bwb1.Pre d) : bwb1.call d = some (bwb1.add d (bwb1.F d)) := Entry.of_run bwb1.inj h
theorem bwb1.does : Does Try.prog 45 bwb1.E := Does.of (by kernel_rfl) (show Sound _ bwb1.G from Sound.cons bcc.does (Sound.nil _)) (by kernel_rfl) (by kernel_rfl) (by kernel_rfl) (LOk.fn 0 (by kernel_rfl) trivial) bwb1.ok

/-! ### (*strings.Builder).WriteByte -/
abbrev bwb2.D := Int × Nat × (List Int)
def bwb2.st : bwb2.D → List AVal × List Ent := fun (c, o0baL, o1) => ([.ptr (.old 0) 0 [] 0, .d (.int .u8) c], [.obj 0 false (.bx 69 (.pr (.ptr (.old 0) 0 [] 0) (.pr (.sref (.old 1) 0 [] 0 0 o0baL) (.d .unit ())))), .obj 0 false (.vec 5 (.int .u8) o1)])
abbrev bwb2.Y := Nat × (List Int)
abbrev bwb2.X := Nat × (List Int)
def bwb2.out : bwb2.X → GRes := fun x => ⟨.undef, [.obj 0 false (.bx 69 (.pr (.ptr (.old 0) 0 [] 0) (.pr (.sref (.old 1) 1 [] 0 0 x.1) (.d .unit ())))), .obj 1 false (.vec 5 (.int .u8) x.2)], []⟩
def bwb2.add : bwb2.D → bwb2.Y → bwb2.X := fun (c, o0baL, o1) y => y


def bwb2.Pre : bwb2.D → Prop := fun (c, n, l) => l.length = n ∧ n ≤ 100000000
def bwb2.F : bwb2.D → bwb2.Y := fun (c, n, l) => (n + 1, l ++ [c])

noncomputable def bwb2.G : Gam := gcons 56 anyArgs bcc.E (gnil)
noncomputable def bwb2.an : Ann := {
  objs := [],
  loops := fun r => { keep := [], sites := [], frz := [], data := [], owns := [] },
  outs := fun r b => { keep := [], sites := [], frz := [], data := [], owns := [] },
  sums := fun r => none,
  owns := [],
  trim := [],
  res := [] }
theorem bwb2.eq {R : Type} (c : Int) (o0baL : Nat) (o1 : (List Int)) (k : GRes → Option R) : arun Try.prog bwb2.G bwb2.an 0 Try.f45 (bwb2.st (c, o0baL, o1)).1 (bwb2.st (c, o0baL, o1)).2 k =
  obind (altR (X := bcc1.X) (bcc2.call (o0baL, o1))) fun x1 =>
  sel (decide (x1.2.1 ≤ (List.length x1.2.2))) (
  sel (roomA (x1.2.1 + 1) 1) (
  k (bwb2.out ((x1.2.1 + 1), ((List.take x1.2.1 x1.2.2) ++ [c])))) none) none := by kernel_rfl


theorem bwb2.ok : ∀ d, bwb2.Pre d → arun Try.prog bwb2.G bwb2.an 0 Try.f45 (bwb2.st d).1 (bwb2.st d).2 some = some (bwb2.out (bwb2.add d (bwb2.F d))) := by
  rintro ⟨c, n, l⟩ ⟨h1, h2⟩
  have h1 : l.length = n := h1
  have h2 : n ≤ 100000000 := h2
  rw [bwb2.eq, bcc2.run (d := (n, l)) trivial]
  simp only [altR_some, bcc2.add, bcc2.F]
  simp (disch := omega) only [↓N.lt, ↓N.le, ↓N.gt, ↓N.ge, ↓N.eq, ↓N.ne, ↓N.ib, ↓N.ic, ↓N.nn, ↓N.nz, ↓N.dc, ↓N.rm, ↓N.an, ↓N.or, ↓N.no, ↓if_pos, ↓if_neg, ↓sel_true, ↓sel_false, ↓obind_some, if_pos, if_neg, obind_some, N.aNN, N.aNL, N.aLN, N.sNN, N.sNL, N.sLN, N.mNN, N.mNL, N.mLN, N.qNN, N.qNL, N.rNN, N.rNL, N.cN, N.cL, N.tL, Int.toNat_natCast, if_true, if_false, and_self, true_and, and_true, List.take_of_length_le (Nat.le_of_eq h1)]
  rfl

theorem bwb2.inj : ∀ d d', bwb2.st d = bwb2.st d' → d = d' := fun (c, o0baL, o1) (c', o0baL', o1') hEq => by
  have e0 : c = c' := d_inj (t := (.int .u8)) (congrArg (fun s : List AVal × List Ent => (s.1.getD 1 .undef)) hEq)
  have e1 : o0baL = o0baL' := congrArg (fun s : List AVal × List Ent => srefLen (prA (prB (bxC (entD (s.2.getD 0 .dead)))))) hEq
  have e2 : o1 = o1' := vec_inj (e := 5) (t := (.int .u8)) (congrArg (fun s : List AVal × List Ent => (entD (s.2.getD 1 .dead))) hEq)
  rw [e0, e1, e2]
noncomputable def bwb2.E : Entry := Entry.of [none, some (.int .u8)] bwb2.st bwb2.Pre (fun d => bwb2.add d (bwb2.F d)) bwb2.out
noncomputable def bwb2.call : bwb2.D → Option bwb2.X := fun d => bwb2.E.run (bwb2.st d).1 (bwb2.st d).2
theorem bwb2.run {d : bwb2.D} (h : bwb2.Pre d) : bwb2.call d = some (bwb2.add d (bwb2.F d)) := Entry.of_run bwb2.inj h
theorem bwb2.does : Does Try.prog 45 bwb2.E := Does.of (by kernel_rfl) (show Sound _ bwb2.G from Sound.cons bcc.does (Sound.nil _)) (by kernel_rfl) (by kernel_rfl) (by kernel_rfl) (LOk.fn 0 (by kernel_rfl) trivial) bwb2.ok

noncomputable def bwb.E : Entry := Entry.alt oneOld [none, some (.int .u8)] (X := bwb1.X) (Y := bwb2.X) bwb1.E.run bwb2.E.run bwb1.E.out bwb2.E.out
theorem bwb.does : Does Try.prog 45 bwb.E := Does.alt bwb1.does bwb2.does

theorem bwb1.at (c : Int) : altL (Y := bwb2.X) (bwb1.call c) = some ([c], default) := by rw [bwb1.run (d := c) trivial]; rfl
theorem bwb2.at {c : Int} {n : Nat} {l : List Int} (h1 : l.length = n) (h2 : n ≤ 100000000) : altR (X := bwb1.X) (bwb2.call (c, n, l)) = some (default, n + 1, l ++ [c]) := by rw [bwb2.run (d := (c, n, l)) ⟨h1, h2⟩]; rfl

/-! ### (*strings.Builder).String -/
abbrev bstr.D := Nat × (List Int)
def bstr.st : bstr.D → List AVal × List Ent := fun (o0baL, o1) => ([.ptr (.old 0) 0 [] 0], [.obj 0 false (.bx 69 (.pr (.ptr (.old 0) 0 [] 0) (.pr (.sref (.old 1) 0 [] 0 0 o0baL) (.d .unit ())))), .obj 0 false (.vec 5 (.int .u8) o1)])
abbrev bstr.Y := ByteArray
abbrev bstr.X := (Nat) × (ByteArray)
def bstr.out : bstr.X → GRes := fun x => ⟨.d .str x.2, [.obj 0 false (.bx 69 (.pr (.ptr (.old 0) 0 [] 0) (.pr (.sref (.old 1) 0 [] 0 0 x.1) (.d .unit ())))), .dead], []⟩
def bstr.add : bstr.D → bstr.Y → bstr.X := fun (o0baL, o1) y => (o0baL, y)


def bstr.Pre : bstr.D → Prop := fun (n, l) => l.length = n ∧ 0 < n
def bstr.F : bstr.D → bstr.Y := fun (n, l) => strOfBytes l

noncomputable def bstr.G : Gam := gnil
noncomputable def bstr.an : Ann := {
  objs := [],
  loops := fun r => { keep := [], sites := [], frz := [], data := [], owns := [] },
  outs := fun r b => { keep := [], sites := [], frz := [], data := [], owns := [] },
  sums := fun r => none,
  owns := [],
  trim := [],
  res := [] }
theorem bstr.eq {R : Type} (o0baL : Nat) (o1 : (List Int)) (k : GRes → Option R) : arun Try.prog bstr.G bstr.an 0 Try.f46 (bstr.st (o0baL, o1)).1 (bstr.st (o0baL, o1)).2 k =
  sel (decide (0 < o0baL)) (
  sel (decide (0 < ((o0baL : Nat) : Int) ∧ ((o0baL : Nat) : Int) ≤ (((List.length o1) : Nat) : Int))) (
  k (bstr.out (o0baL, (strOfBytes (List.take (Int.toNat ((o0baL : Nat) : Int)) o1))))) none) none := by kernel_rfl


theorem bstr.ok : ∀ d, bstr.Pre d → arun Try.prog bstr.G bstr.an 0 Try.f46 (bstr.st d).1 (bstr.st d).2 some = some (bstr.out (bstr.add d (bstr.F d))) := by
  rintro ⟨n, l⟩ ⟨h1, h2⟩
  have h1 : l.length = n := h1
  have h2 : 0 < n := h2
  rw [bstr.eq]
  simp (disch := omega) only [↓N.lt, ↓N.le, ↓N.gt, ↓N.ge, ↓N.eq, ↓N.ne, ↓N.ib, ↓N.ic, ↓N.nn, ↓N.nz, ↓N.dc, ↓N.rm, ↓N.an, ↓N.or, ↓N.no, ↓if_pos, ↓if_neg, ↓sel_true, ↓sel_false, ↓obind_some, if_pos, if_neg, obind_some, N.aNN, N.aNL, N.aLN, N.sNN, N.sNL, N.sLN, N.mNN, N.mNL, N.mLN, N.qNN, N.qNL, N.rNN, N.rNL, N.cN, N.cL, N.tL, Int.toNat_natCast, if_true, if_false, and_self, true_and, and_true, List.take_of_length_le (Nat.le_of_eq h1)]
  rfl

theorem bstr.inj : ∀ d d', bstr.st d = bstr.st d' → d = d' := fun (o0baL, o1) (o0baL', o1') hEq => by
  have e0 : o0baL = o0baL' := congrArg (fun s : List AVal × List Ent => srefLen (prA (prB (bxC (entD (s.2.getD 0 .dead)))))) hEq
  have e1 : o1 = o1' := vec_inj (e := 5) (t := (.int .u8)) (congrArg (fun s : List AVal × List Ent => (entD (s.2.getD 1 .dead))) hEq)
  rw [e0, e1]
noncomputable def bstr.E : Entry := Entry.of [none] bstr.st bstr.Pre (fun d => bstr.add d (bstr.F d)) bstr.out
noncomputable def bstr.call : bstr.D → Option bstr.X := fun d => bstr.E.run (bstr.st d).1 (bstr.st d).2
theorem bstr.run {d : bstr.D} (h : bstr.Pre d) : bstr.call d = some (bstr.add d (bstr.F d)) := Entry.of_run bstr.inj h
theorem bstr.does : Does Try.prog 46 bstr.E := Does.of (by kernel_rfl) (show Sound _ bstr.G from Sound.nil _) (by kernel_rfl) (by kernel_rfl) (by kernel_rfl) (LOk.fn 0 (by kernel_rfl) trivial) bstr.ok

end Go.Ab
