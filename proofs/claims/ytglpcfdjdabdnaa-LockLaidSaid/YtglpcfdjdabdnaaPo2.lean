/-
  Made by a program of mine (wip/gen), and by hand.
-/
import Derived.Test.YtglpcfdjdabdnaaPo1
namespace Go.Ab
open Go.Proofs
set_option maxRecDepth 100000
set_option linter.unusedVariables false
set_option linter.unusedSimpArgs false


/-- Is it a point? -/
def isP (p : Int) : Bool := decide (0 < p ∧ p < 4611686018427377339) && decide (pw p 2305843009213688669 = 1)
/-- A point, or the null point. -/
def tk (p : Int) : Int := if isP p then p else 1
theorem tk_ok (p : Int) : Pn (tk p) := by
  unfold tk
  split
  · rename_i h
    simp only [isP, Bool.and_eq_true, decide_eq_true_eq] at h
    exact ⟨by omega, by omega⟩
  · exact ⟨by omega, by omega⟩
def scaleP (p k : Int) : Int := pw (tk p) (k % 2305843009213688669).toNat
def baseP (k : Int) : Int := scaleP 4 k
def negP (p : Int) : Int := pw (tk p) 2305843009213688668
def sumP (l : List Int) : Int := l.foldl (fun o p => mulP o (tk p)) 1
theorem sumF_ok (l : List Int) (o : Int) (h : Pn o) : Pn (l.foldl (fun o p => mulP o (tk p)) o) := by
  induction l generalizing o with
  | nil => exact h
  | cons p l ih => exact ih _ (mulP_ok _ _)
theorem sumP_ok (l : List Int) : Pn (sumP l) := sumF_ok l 1 ⟨by omega, by omega⟩

/-! ### corsned/point.Right -/
abbrev pright.D := Int
def pright.st : pright.D → List AVal × List Ent := fun p => ([.d (.int .u64) p], [])
abbrev pright.Y := Bool
abbrev pright.X := Bool
def pright.out : pright.X → GRes := fun x => ⟨.d .bool x, [], []⟩
def pright.add : pright.D → pright.Y → pright.X := fun p y => y


def pright.Pre : pright.D → Prop := fun p => U64 p
def pright.F : pright.D → pright.Y := fun p => isP p

noncomputable def pright.G : Gam := gcons 41 anyArgs ppower.E (gnil)
noncomputable def pright.an : Ann := {
  objs := [],
  loops := fun r => { keep := [], sites := [], frz := [], data := [], owns := [] },
  outs := fun r b => { keep := [], sites := [], frz := [], data := [], owns := [] },
  sums := fun r => none,
  owns := [],
  trim := [],
  res := [] }
theorem pright.eq {R : Type} (p : Int) (k : GRes → Option R) : arun Try.prog pright.G pright.an 0 Try.f15 (pright.st p).1 (pright.st p).2 k =
  sel ((igt p (0 : Int))) (
   sel ((ilt p (4611686018427377339 : Int))) (
    obind (ppower.call (p, (2305843009213688669 : Int))) fun x1 =>
    k (pright.out (ieq x1 (1 : Int)))) (
    k (pright.out false))) (
   k (pright.out false)) := by kernel_rfl


theorem pright.ok : ∀ d, pright.Pre d → arun Try.prog pright.G pright.an 0 Try.f15 (pright.st d).1 (pright.st d).2 some = some (pright.out (pright.add d (pright.F d))) := by
  intro p hp
  have hp : U64 p := hp
  rw [pright.eq, ppower.run (d := (p, 2305843009213688669)) ⟨hp, by constructor <;> decide⟩]
  simp only [obind_some, ppower.add, ppower.F, pright.add, pright.F, isP]
  by_cases h : 0 < p
  · rw [igt_true h, sel_true]
    by_cases h2 : p < 4611686018427377339
    · rw [ilt_true h2, sel_true, dec_true ⟨h, h2⟩, Bool.true_and]
      rfl
    · rw [ilt_false h2, sel_false, dec_false (fun x => h2 x.2), Bool.false_and]
  · rw [igt_false h, sel_false, dec_false (fun x => h x.1), Bool.false_and]

theorem pright.inj : ∀ d d', pright.st d = pright.st d' → d = d' := fun p p' hEq => by
  have e0 : p = p' := d_inj (t := (.int .u64)) (congrArg (fun s : List AVal × List Ent => (s.1.getD 0 .undef)) hEq)
  rw [e0]
noncomputable def pright.E : Entry := Entry.of [some (.int .u64)] pright.st pright.Pre (fun d => pright.add d (pright.F d)) pright.out
noncomputable def pright.call : pright.D → Option pright.X := fun d => pright.E.run (pright.st d).1 (pright.st d).2
theorem pright.run {d : pright.D} (h : pright.Pre d) : pright.call d = some (pright.add d (pright.F d)) := Entry.of_run pright.inj h
theorem pright.does : Does Try.prog 15 pright.E := Does.of (by kernel_rfl) (show Sound _ pright.G from Sound.cons ppower.does (Sound.nil _)) (by kernel_rfl) (by kernel_rfl) (by kernel_rfl) (LOk.fn 0 (by kernel_rfl) trivial) pright.ok

/-! ### corsned/point.taken -/
abbrev ptaken.D := Int
def ptaken.st : ptaken.D → List AVal × List Ent := fun p => ([.d (.int .u64) p], [])
abbrev ptaken.Y := Int
abbrev ptaken.X := Int
def ptaken.out : ptaken.X → GRes := fun x => ⟨.d (.int .u64) x, [], []⟩
def ptaken.add : ptaken.D → ptaken.Y → ptaken.X := fun p y => y


def ptaken.Pre : ptaken.D → Prop := fun p => U64 p
def ptaken.F : ptaken.D → ptaken.Y := fun p => tk p

noncomputable def ptaken.G : Gam := gcons 15 anyArgs pright.E (gnil)
noncomputable def ptaken.an : Ann := {
  objs := [],
  loops := fun r => { keep := [], sites := [], frz := [], data := [], owns := [] },
  outs := fun r b => { keep := [], sites := [], frz := [], data := [], owns := [] },
  sums := fun r => none,
  owns := [],
  trim := [],
  res := [] }
theorem ptaken.eq {R : Type} (p : Int) (k : GRes → Option R) : arun Try.prog ptaken.G ptaken.an 0 Try.f60 (ptaken.st p).1 (ptaken.st p).2 k =
  obind (pright.call p) fun x1 =>
  sel (x1) (
   k (ptaken.out p)) (
   k (ptaken.out (1 : Int))) := by kernel_rfl


theorem ptaken.ok : ∀ d, ptaken.Pre d → arun Try.prog ptaken.G ptaken.an 0 Try.f60 (ptaken.st d).1 (ptaken.st d).2 some = some (ptaken.out (ptaken.add d (ptaken.F d))) := by
  intro p hp
  rw [ptaken.eq, pright.run (d := p) hp]
  simp only [obind_some, pright.add, pright.F, ptaken.add, ptaken.F, tk]
  cases isP p <;> rfl

theorem ptaken.inj : ∀ d d', ptaken.st d = ptaken.st d' → d = d' := fun p p' hEq => by
  have e0 : p = p' := d_inj (t := (.int .u64)) (congrArg (fun s : List AVal × List Ent => (s.1.getD 0 .undef)) hEq)
  rw [e0]
noncomputable def ptaken.E : Entry := Entry.of [some (.int .u64)] ptaken.st ptaken.Pre (fun d => ptaken.add d (ptaken.F d)) ptaken.out
noncomputable def ptaken.call : ptaken.D → Option ptaken.X := fun d => ptaken.E.run (ptaken.st d).1 (ptaken.st d).2
theorem ptaken.run {d : ptaken.D} (h : ptaken.Pre d) : ptaken.call d = some (ptaken.add d (ptaken.F d)) := Entry.of_run ptaken.inj h
theorem ptaken.does : Does Try.prog 60 ptaken.E := Does.of (by kernel_rfl) (show Sound _ ptaken.G from Sound.cons pright.does (Sound.nil _)) (by kernel_rfl) (by kernel_rfl) (by kernel_rfl) (LOk.fn 0 (by kernel_rfl) trivial) ptaken.ok

/-! ### corsned/point.Scale -/
abbrev pscale.D := Int × Int
def pscale.st : pscale.D → List AVal × List Ent := fun (p, kv) => ([.d (.int .u64) p, .d (.int .u64) kv], [])
abbrev pscale.Y := Int
abbrev pscale.X := Int
def pscale.out : pscale.X → GRes := fun x => ⟨.d (.int .u64) x, [], []⟩
def pscale.add : pscale.D → pscale.Y → pscale.X := fun (p, kv) y => y


def pscale.Pre : pscale.D → Prop := fun (p, k) => U64 p ∧ U64 k
def pscale.F : pscale.D → pscale.Y := fun (p, k) => scaleP p k

noncomputable def pscale.G : Gam := gcons 60 anyArgs ptaken.E (gcons 41 anyArgs ppower.E (gnil))
noncomputable def pscale.an : Ann := {
  objs := [],
  loops := fun r => { keep := [], sites := [], frz := [], data := [], owns := [] },
  outs := fun r b => { keep := [], sites := [], frz := [], data := [], owns := [] },
  sums := fun r => none,
  owns := [],
  trim := [],
  res := [] }
theorem pscale.eq {R : Type} (p : Int) (kv : Int) (k : GRes → Option R) : arun Try.prog pscale.G pscale.an 0 Try.f36 (pscale.st (p, kv)).1 (pscale.st (p, kv)).2 k =
  obind (ptaken.call p) fun x1 =>
  obind (ppower.call (x1, (irem kv (2305843009213688669 : Int)))) fun x2 =>
  k (pscale.out x2) := by kernel_rfl


theorem pscale.ok : ∀ d, pscale.Pre d → arun Try.prog pscale.G pscale.an 0 Try.f36 (pscale.st d).1 (pscale.st d).2 some = some (pscale.out (pscale.add d (pscale.F d))) := by
  rintro ⟨p, k⟩ ⟨hp, hk⟩
  have hk : U64 k := hk
  have e := irem_nn (y := 2305843009213688669) hk.1
  have b : U64 (k % 2305843009213688669) := ⟨by omega, by omega⟩
  rw [pscale.eq, ptaken.run (d := p) hp, e]
  simp only [obind_some, ptaken.add, ptaken.F]
  rw [ppower.run (d := (tk p, k % 2305843009213688669)) ⟨(tk_ok p).u, b⟩]
  rfl

theorem pscale.inj : ∀ d d', pscale.st d = pscale.st d' → d = d' := fun (p, kv) (p', kv') hEq => by
  have e0 : p = p' := d_inj (t := (.int .u64)) (congrArg (fun s : List AVal × List Ent => (s.1.getD 0 .undef)) hEq)
  have e1 : kv = kv' := d_inj (t := (.int .u64)) (congrArg (fun s : List AVal × List Ent => (s.1.getD 1 .undef)) hEq)
  rw [e0, e1]
noncomputable def pscale.E : Entry := Entry.of [some (.int .u64), some (.int .u64)] pscale.st pscale.Pre (fun d => pscale.add d (pscale.F d)) pscale.out
noncomputable def pscale.call : pscale.D → Option pscale.X := fun d => pscale.E.run (pscale.st d).1 (pscale.st d).2
theorem pscale.run {d : pscale.D} (h : pscale.Pre d) : pscale.call d = some (pscale.add d (pscale.F d)) := Entry.of_run pscale.inj h
theorem pscale.does : Does Try.prog 36 pscale.E := Does.of (by kernel_rfl) (show Sound _ pscale.G from Sound.cons ptaken.does (Sound.cons ppower.does (Sound.nil _))) (by kernel_rfl) (by kernel_rfl) (by kernel_rfl) (LOk.fn 0 (by kernel_rfl) trivial) pscale.ok

/-! ### corsned/point.Base -/
abbrev pbase.D := Int
def pbase.st : pbase.D → List AVal × List Ent := fun kv => ([.d (.int .u64) kv], [])
abbrev pbase.Y := Int
abbrev pbase.X := Int
def pbase.out : pbase.X → GRes := fun x => ⟨.d (.int .u64) x, [], []⟩
def pbase.add : pbase.D → pbase.Y → pbase.X := fun kv y => y


def pbase.Pre : pbase.D → Prop := fun k => U64 k
def pbase.F : pbase.D → pbase.Y := fun k => baseP k

noncomputable def pbase.G : Gam := gcons 36 anyArgs pscale.E (gnil)
noncomputable def pbase.an : Ann := {
  objs := [],
  loops := fun r => { keep := [], sites := [], frz := [], data := [], owns := [] },
  outs := fun r b => { keep := [], sites := [], frz := [], data := [], owns := [] },
  sums := fun r => none,
  owns := [],
  trim := [],
  res := [] }
theorem pbase.eq {R : Type} (kv : Int) (k : GRes → Option R) : arun Try.prog pbase.G pbase.an 0 Try.f12 (pbase.st kv).1 (pbase.st kv).2 k =
  obind (pscale.call ((4 : Int), kv)) fun x1 =>
  k (pbase.out x1) := by kernel_rfl


theorem pbase.ok : ∀ d, pbase.Pre d → arun Try.prog pbase.G pbase.an 0 Try.f12 (pbase.st d).1 (pbase.st d).2 some = some (pbase.out (pbase.add d (pbase.F d))) := by
  intro k hk
  rw [pbase.eq, pscale.run (d := (4, k)) ⟨⟨by omega, by omega⟩, hk⟩]
  rfl

theorem pbase.inj : ∀ d d', pbase.st d = pbase.st d' → d = d' := fun kv kv' hEq => by
  have e0 : kv = kv' := d_inj (t := (.int .u64)) (congrArg (fun s : List AVal × List Ent => (s.1.getD 0 .undef)) hEq)
  rw [e0]
noncomputable def pbase.E : Entry := Entry.of [some (.int .u64)] pbase.st pbase.Pre (fun d => pbase.add d (pbase.F d)) pbase.out
noncomputable def pbase.call : pbase.D → Option pbase.X := fun d => pbase.E.run (pbase.st d).1 (pbase.st d).2
theorem pbase.run {d : pbase.D} (h : pbase.Pre d) : pbase.call d = some (pbase.add d (pbase.F d)) := Entry.of_run pbase.inj h
theorem pbase.does : Does Try.prog 12 pbase.E := Does.of (by kernel_rfl) (show Sound _ pbase.G from Sound.cons pscale.does (Sound.nil _)) (by kernel_rfl) (by kernel_rfl) (by kernel_rfl) (LOk.fn 0 (by kernel_rfl) trivial) pbase.ok

/-! ### corsned/point.Neg -/
abbrev pneg.D := Int
def pneg.st : pneg.D → List AVal × List Ent := fun p => ([.d (.int .u64) p], [])
abbrev pneg.Y := Int
abbrev pneg.X := Int
def pneg.out : pneg.X → GRes := fun x => ⟨.d (.int .u64) x, [], []⟩
def pneg.add : pneg.D → pneg.Y → pneg.X := fun p y => y


def pneg.Pre : pneg.D → Prop := fun p => U64 p
def pneg.F : pneg.D → pneg.Y := fun p => negP p

noncomputable def pneg.G : Gam := gcons 60 anyArgs ptaken.E (gcons 41 anyArgs ppower.E (gnil))
noncomputable def pneg.an : Ann := {
  objs := [],
  loops := fun r => { keep := [], sites := [], frz := [], data := [], owns := [] },
  outs := fun r b => { keep := [], sites := [], frz := [], data := [], owns := [] },
  sums := fun r => none,
  owns := [],
  trim := [],
  res := [] }
theorem pneg.eq {R : Type} (p : Int) (k : GRes → Option R) : arun Try.prog pneg.G pneg.an 0 Try.f75 (pneg.st p).1 (pneg.st p).2 k =
  obind (ptaken.call p) fun x1 =>
  obind (ppower.call (x1, (2305843009213688668 : Int))) fun x2 =>
  k (pneg.out x2) := by kernel_rfl


theorem pneg.ok : ∀ d, pneg.Pre d → arun Try.prog pneg.G pneg.an 0 Try.f75 (pneg.st d).1 (pneg.st d).2 some = some (pneg.out (pneg.add d (pneg.F d))) := by
  intro p hp
  rw [pneg.eq, ptaken.run (d := p) hp]
  simp only [obind_some, ptaken.add, ptaken.F]
  rw [ppower.run (d := (tk p, 2305843009213688668)) ⟨(tk_ok p).u, by constructor <;> decide⟩]
  rfl

theorem pneg.inj : ∀ d d', pneg.st d = pneg.st d' → d = d' := fun p p' hEq => by
  have e0 : p = p' := d_inj (t := (.int .u64)) (congrArg (fun s : List AVal × List Ent => (s.1.getD 0 .undef)) hEq)
  rw [e0]
noncomputable def pneg.E : Entry := Entry.of [some (.int .u64)] pneg.st pneg.Pre (fun d => pneg.add d (pneg.F d)) pneg.out
noncomputable def pneg.call : pneg.D → Option pneg.X := fun d => pneg.E.run (pneg.st d).1 (pneg.st d).2
theorem pneg.run {d : pneg.D} (h : pneg.Pre d) : pneg.call d = some (pneg.add d (pneg.F d)) := Entry.of_run pneg.inj h
theorem pneg.does : Does Try.prog 75 pneg.E := Does.of (by kernel_rfl) (show Sound _ pneg.G from Sound.cons ptaken.does (Sound.cons ppower.does (Sound.nil _))) (by kernel_rfl) (by kernel_rfl) (by kernel_rfl) (LOk.fn 0 (by kernel_rfl) trivial) pneg.ok

/-! ### corsned/point.All -/
abbrev pall.L0.D := Int × (List Int) × Int × Int
def pall.L0.st : pall.L0.D → AS := fun (outv, t6, t7, t8) => ⟨([.undef, .undef, .undef, .d (.int .u64) outv, .undef, .undef, .d (.slice (.int .u64)) t6, .d (.int .i64) t7, .d (.int .i64) t8] ++ undN 9 []), [], (List.replicate 18 [])⟩
abbrev pall.L0.Y0 := Int  -- out
abbrev pall.L0.X0 := Int
def pall.L0.ex0 : pall.L0.X0 → Exit × AS := fun x => (.exit 0, ⟨([.undef, .undef, .undef, .d (.int .u64) x] ++ undN 14 []), [], (List.replicate 18 [])⟩)
abbrev pall.L0.X := pall.L0.X0
abbrev pall.L0.Y := pall.L0.Y0
def pall.L0.out : pall.L0.X → Out (Exit × AS) := fun x => .ok (pall.L0.ex0 x)
def pall.L0.add : pall.L0.D → pall.L0.Y → pall.L0.X := fun (outv, t6, t7, t8) y => y
abbrev pall.D := (List Int)
def pall.st : pall.D → List AVal × List Ent := fun l => ([.d (.slice (.int .u64)) l], [])
abbrev pall.Y := Int
abbrev pall.X := Int
def pall.out : pall.X → GRes := fun x => ⟨.d (.int .u64) x, [], []⟩
def pall.add : pall.D → pall.Y → pall.X := fun l y => y


def pall.L0.Pre : pall.L0.D → Prop := fun (o, l, n, i) => Pn o ∧ (∀ x ∈ l, U64 x) ∧ l.length ≤ 1000000000 ∧ n = l.length ∧ ∃ k : Nat, k ≤ l.length ∧ i = k
def pall.L0.F : pall.L0.D → pall.L0.Y := fun (o, l, n, i) => (l.drop i.toNat).foldl (fun o p => mulP o (tk p)) o
def pall.Pre : pall.D → Prop := fun l => (∀ x ∈ l, U64 x) ∧ l.length ≤ 1000000000
def pall.F : pall.D → pall.Y := fun l => sumP l

noncomputable def pall.G : Gam := gcons 60 anyArgs ptaken.E (gcons 66 anyArgs ptimes.E (gnil))
noncomputable def pall.L0.E : LEntry := LEntry.of pall.L0.st pall.L0.Pre (fun d => pall.L0.add d (pall.L0.F d)) pall.L0.out
noncomputable def pall.L0.call : pall.L0.D → Option pall.L0.X := fun d => pall.L0.E.run (pall.L0.st d)
noncomputable def pall.an : Ann := {
  objs := [],
  loops := fun r => bif Nat.beq r 3 then { keep := [3, 6, 7, 8], sites := [], frz := [], data := [], owns := [] } else { keep := [], sites := [], frz := [], data := [], owns := [] },
  outs := fun r b => bif Nat.beq r 3 then (bif b then { keep := [2], sites := [], frz := [], data := [], owns := [] } else { keep := [3], sites := [], frz := [], data := [], owns := [] }) else { keep := [], sites := [], frz := [], data := [], owns := [] },
  sums := fun r => bif Nat.beq r 3 then some pall.L0.E else none,
  owns := [],
  trim := [],
  res := [] }
theorem pall.L0.inj : ∀ d d', pall.L0.st d = pall.L0.st d' → d = d' := fun (outv, t6, t7, t8) (outv', t6', t7', t8') hEq => by
  have e0 : outv = outv' := d_inj (t := (.int .u64)) (congrArg (fun s : AS => (s.slot 3)) hEq)
  have e1 : t6 = t6' := d_inj (t := (.slice (.int .u64))) (congrArg (fun s : AS => (s.slot 6)) hEq)
  have e2 : t7 = t7' := d_inj (t := (.int .i64)) (congrArg (fun s : AS => (s.slot 7)) hEq)
  have e3 : t8 = t8' := d_inj (t := (.int .i64)) (congrArg (fun s : AS => (s.slot 8)) hEq)
  rw [e0, e1, e2, e3]
theorem pall.L0.run {d : pall.L0.D} (h : pall.L0.Pre d) : pall.L0.call d = some (pall.L0.add d (pall.L0.F d)) := LEntry.of_run pall.L0.inj h
theorem pall.L0.byRounds (μ : pall.L0.D → Nat) (h : ∀ d, pall.L0.Pre d → (∃ d', pall.L0.Pre d' ∧ μ d' < μ d ∧ pall.L0.add d' (pall.L0.F d') = pall.L0.add d (pall.L0.F d) ∧ ∀ {R : Type} (kn : AS → Option R) (kx : Exit → AS → Option R), lround Try.prog pall.G pall.an 0 Try.f73 0 (pall.L0.st d) kn kx = kn (pall.L0.st d')) ∨ (∀ {R : Type} (kn : AS → Option R) (kx : Exit → AS → Option R), lround Try.prog pall.G pall.an 0 Try.f73 0 (pall.L0.st d) kn kx = kx (pall.L0.ex0 (pall.L0.add d (pall.L0.F d))).1 (pall.L0.ex0 (pall.L0.add d (pall.L0.F d))).2)) : ∀ d, pall.L0.Pre d → ∃ n, lrun Try.prog pall.G pall.an 0 Try.f73 0 n (pall.L0.st d) (fun e s => some (e, s)) = (pall.L0.out (pall.L0.add d (pall.L0.F d))).eval := lrun_one (F := fun d => pall.L0.add d (pall.L0.F d)) μ h
theorem pall.L0.step {R : Type} (outv : Int) (t6 : (List Int)) (t7 : Int) (t8 : Int) (kn : AS → Option R) (kx : Exit → AS → Option R) : lround Try.prog pall.G pall.an 0 Try.f73 0 (pall.L0.st (outv, t6, t7, t8)) kn kx =
  sel ((ilt t8 t7)) (
   sel (inb t8 (((List.length t6) : Nat) : Int)) (
   obind (ptaken.call (nth (.int .u64) t6 (Int.toNat t8))) fun x1 =>
   obind (ptimes.call (outv, x1)) fun x2 =>
   kn (pall.L0.st (x2, t6, t7, (iadd .i64 t8 (1 : Int))))) none) (
   kx (pall.L0.ex0 outv).1 (pall.L0.ex0 outv).2) := by kernel_rfl
theorem pall.eq {R : Type} (l : (List Int)) (k : GRes → Option R) : arun Try.prog pall.G pall.an 0 Try.f73 (pall.st l).1 (pall.st l).2 k =
  obind (pall.L0.call ((1 : Int), l, (((List.length l) : Nat) : Int), (0 : Int))) fun x3 =>
  k (pall.out x3) := by kernel_rfl


theorem pall.L0.ok : ∀ d, pall.L0.Pre d → ∃ n, lrun Try.prog pall.G pall.an 0 Try.f73 0 n (pall.L0.st d) (fun e s => some (e, s)) = (pall.L0.out (pall.L0.add d (pall.L0.F d))).eval := by
  refine pall.L0.byRounds (fun (o, l, n, i) => l.length - i.toNat) ?_
  rintro ⟨o, l, n, i⟩ ⟨ho, hl, hb, rfl, k, hk, rfl⟩
  have ho : Pn o := ho
  have hb : l.length ≤ 1000000000 := hb
  have hk : k ≤ l.length := hk
  by_cases h : k < l.length
  · left
    have hx := hl _ (List.getElem_mem h)
    have n1 : nth (.int .u64) l k = l[k] := nth_lt (t := .int .u64) h
    refine ⟨(mulP o (tk l[k]), l, l.length, ((k + 1 : Nat) : Int)), ⟨mulP_ok _ _, hl, hb, rfl, k + 1, by omega, rfl⟩, by simp only [Int.toNat_natCast]; omega, ?_, fun kn kx => ?_⟩
    · simp only [pall.L0.add, pall.L0.F, Int.toNat_natCast]
      rw [List.drop_eq_getElem_cons h]
      rfl
    · rw [pall.L0.step]
      simp (disch := omega) only [↓N.lt, ↓N.le, ↓N.gt, ↓N.ge, ↓N.eq, ↓N.ne, ↓N.ib, ↓N.ic, ↓N.nn, ↓N.nz, ↓N.dc, ↓N.rm, ↓N.an, ↓N.or, ↓N.no, ↓if_pos, ↓if_neg, ↓sel_true, ↓sel_false, ↓obind_some, if_pos, if_neg, obind_some, N.aNN, N.aNL, N.aLN, N.sNN, N.sNL, N.sLN, N.mNN, N.mNL, N.mLN, N.qNN, N.qNL, N.rNN, N.rNL, N.cN, N.cL, N.tL, Int.toNat_natCast, if_true, if_false, and_self, true_and, and_true, n1]
      rw [ptaken.run (d := l[k]) hx]
      simp only [obind_some, ptaken.add, ptaken.F]
      rw [ptimes.run (d := (o, tk l[k])) ⟨ho.u, (tk_ok _).u⟩]
      rfl
  · right
    obtain rfl : k = l.length := by omega
    intro R kn kx
    rw [pall.L0.step]
    simp (disch := omega) only [↓N.lt, ↓N.le, ↓N.gt, ↓N.ge, ↓N.eq, ↓N.ne, ↓N.ib, ↓N.ic, ↓N.nn, ↓N.nz, ↓N.dc, ↓N.rm, ↓N.an, ↓N.or, ↓N.no, ↓if_pos, ↓if_neg, ↓sel_true, ↓sel_false, ↓obind_some, if_pos, if_neg, obind_some, N.aNN, N.aNL, N.aLN, N.sNN, N.sNL, N.sLN, N.mNN, N.mNL, N.mLN, N.qNN, N.qNL, N.rNN, N.rNL, N.cN, N.cL, N.tL, Int.toNat_natCast, if_true, if_false, and_self, true_and, and_true, pall.L0.add, pall.L0.F, List.drop_length]
    rfl
theorem pall.ok : ∀ d, pall.Pre d → arun Try.prog pall.G pall.an 0 Try.f73 (pall.st d).1 (pall.st d).2 some = some (pall.out (pall.add d (pall.F d))) := by
  rintro l ⟨hl, hb⟩
  rw [pall.eq, pall.L0.run (d := (1, l, l.length, 0)) ⟨⟨by omega, by omega⟩, hl, hb, rfl, 0, by omega, rfl⟩]
  rfl

theorem pall.inj : ∀ d d', pall.st d = pall.st d' → d = d' := fun l l' hEq => by
  have e0 : l = l' := d_inj (t := (.slice (.int .u64))) (congrArg (fun s : List AVal × List Ent => (s.1.getD 0 .undef)) hEq)
  rw [e0]
noncomputable def pall.E : Entry := Entry.of [some (.slice (.int .u64))] pall.st pall.Pre (fun d => pall.add d (pall.F d)) pall.out
noncomputable def pall.call : pall.D → Option pall.X := fun d => pall.E.run (pall.st d).1 (pall.st d).2
theorem pall.run {d : pall.D} (h : pall.Pre d) : pall.call d = some (pall.add d (pall.F d)) := Entry.of_run pall.inj h
theorem pall.does : Does Try.prog 73 pall.E := Does.of (by kernel_rfl) (show Sound _ pall.G from Sound.cons ptaken.does (Sound.cons ptimes.does (Sound.nil _))) (by kernel_rfl) (by kernel_rfl) (by kernel_rfl) (LOk.fn 1 (by kernel_rfl) (And.intro (LDo.of (by kernel_rfl) pall.L0.ok) trivial)) pall.ok

/-! ### corsned/point.Add -/
abbrev padd.D := Int × Int
def padd.st : padd.D → List AVal × List Ent := fun (p, q) => ([.d (.int .u64) p, .d (.int .u64) q], [])
abbrev padd.Y := Int
abbrev padd.X := Int
def padd.out : padd.X → GRes := fun x => ⟨.d (.int .u64) x, [], []⟩
def padd.add : padd.D → padd.Y → padd.X := fun (p, q) y => y


def padd.Pre : padd.D → Prop := fun (p, q) => U64 p ∧ U64 q
def padd.F : padd.D → padd.Y := fun (p, q) => sumP [p, q]

noncomputable def padd.G : Gam := gcons 73 anyArgs pall.E (gnil)
noncomputable def padd.an : Ann := {
  objs := [],
  loops := fun r => { keep := [], sites := [], frz := [], data := [], owns := [] },
  outs := fun r b => { keep := [], sites := [], frz := [], data := [], owns := [] },
  sums := fun r => none,
  owns := [],
  trim := [],
  res := [] }
theorem padd.eq {R : Type} (p : Int) (q : Int) (k : GRes → Option R) : arun Try.prog padd.G padd.an 0 Try.f82 (padd.st (p, q)).1 (padd.st (p, q)).2 k =
  obind (pall.call [p, q]) fun x1 =>
  k (padd.out x1) := by kernel_rfl


theorem padd.ok : ∀ d, padd.Pre d → arun Try.prog padd.G padd.an 0 Try.f82 (padd.st d).1 (padd.st d).2 some = some (padd.out (padd.add d (padd.F d))) := by
  rintro ⟨p, q⟩ ⟨hp, hq⟩
  have h : pall.Pre [p, q] := ⟨by intro x hx; simp only [List.mem_cons, List.not_mem_nil, or_false] at hx; rcases hx with rfl | rfl <;> assumption, by simp only [List.length_cons, List.length_nil]; omega⟩
  rw [padd.eq, pall.run h]
  rfl

theorem padd.inj : ∀ d d', padd.st d = padd.st d' → d = d' := fun (p, q) (p', q') hEq => by
  have e0 : p = p' := d_inj (t := (.int .u64)) (congrArg (fun s : List AVal × List Ent => (s.1.getD 0 .undef)) hEq)
  have e1 : q = q' := d_inj (t := (.int .u64)) (congrArg (fun s : List AVal × List Ent => (s.1.getD 1 .undef)) hEq)
  rw [e0, e1]
noncomputable def padd.E : Entry := Entry.of [some (.int .u64), some (.int .u64)] padd.st padd.Pre (fun d => padd.add d (padd.F d)) padd.out
noncomputable def padd.call : padd.D → Option padd.X := fun d => padd.E.run (padd.st d).1 (padd.st d).2
theorem padd.run {d : padd.D} (h : padd.Pre d) : padd.call d = some (padd.add d (padd.F d)) := Entry.of_run padd.inj h
theorem padd.does : Does Try.prog 82 padd.E := Does.of (by kernel_rfl) (show Sound _ padd.G from Sound.cons pall.does (Sound.nil _)) (by kernel_rfl) (by kernel_rfl) (by kernel_rfl) (LOk.fn 0 (by kernel_rfl) trivial) padd.ok

end Go.Ab
