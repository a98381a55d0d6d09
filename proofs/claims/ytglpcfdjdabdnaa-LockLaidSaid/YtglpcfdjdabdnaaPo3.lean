/-
  Made by a program of mine (wip/gen), and by hand.
-/
import Derived.Test.YtglpcfdjdabdnaaPo2
namespace Go.Ab
open Go.Proofs
set_option maxRecDepth 100000
set_option linter.unusedVariables false
set_option linter.unusedSimpArgs false


def Qn (x : Int) : Prop := 0 ≤ x ∧ x < 2305843009213688669
theorem Qn.u {x : Int} (h : Qn x) : U64 x := ⟨h.1, by have := h.2; omega⟩
def ofQ (a : Int) : Int := a % 2305843009213688669
theorem ofQ_ok (a : Int) : Qn (ofQ a) := ⟨Int.emod_nonneg _ (by omega), Int.emod_lt_of_pos _ (by omega)⟩
def addQ (a b : Int) : Int := (ofQ a + ofQ b) % 2305843009213688669
def mulQ (a b : Int) : Int := ofQ a * ofQ b % 2305843009213688669
/-- A sum's number. -/
def fromQ (h : List Int) : Int := h.foldl (fun n b => (n * 256 + b) % 2305843009213688668) 0 + 1
def From.b (n : Int) : Prop := 0 ≤ n ∧ n < 2305843009213688668
theorem fromF_ok (h : List Int) (n : Int) (hn : From.b n) : From.b (h.foldl (fun n b => (n * 256 + b) % 2305843009213688668) n) := by
  induction h generalizing n with
  | nil => exact hn
  | cons p l ih => exact ih _ ⟨Int.emod_nonneg _ (by omega), Int.emod_lt_of_pos _ (by omega)⟩
theorem fromQ_ok (h : List Int) : 0 < fromQ h ∧ fromQ h < 2305843009213688669 := by
  have := fromF_ok h 0 ⟨by omega, by omega⟩
  have h1 := this.1
  have h2 := this.2
  unfold fromQ
  omega
theorem addQ_ok (a b : Int) : Qn (addQ a b) := ⟨Int.emod_nonneg _ (by omega), Int.emod_lt_of_pos _ (by omega)⟩
theorem mulQ_ok (a b : Int) : Qn (mulQ a b) := ⟨Int.emod_nonneg _ (by omega), Int.emod_lt_of_pos _ (by omega)⟩

/-! ### corsned/field.Right -/
abbrev fright.D := Int
def fright.st : fright.D → List AVal × List Ent := fun a => ([.d (.int .u64) a], [])
abbrev fright.Y := Bool
abbrev fright.X := Bool
def fright.out : fright.X → GRes := fun x => ⟨.d .bool x, [], []⟩
def fright.add : fright.D → fright.Y → fright.X := fun a y => y


def fright.Pre : fright.D → Prop := fun _ => True
def fright.F : fright.D → fright.Y := fun a => ilt a 2305843009213688669

noncomputable def fright.G : Gam := gnil
noncomputable def fright.an : Ann := {
  objs := [],
  loops := fun r => { keep := [], sites := [], frz := [], data := [], owns := [] },
  outs := fun r b => { keep := [], sites := [], frz := [], data := [], owns := [] },
  sums := fun r => none,
  owns := [],
  trim := [],
  res := [] }
theorem fright.eq {R : Type} (a : Int) (k : GRes → Option R) : arun Try.prog fright.G fright.an 0 Try.f72 (fright.st a).1 (fright.st a).2 k =
  k (fright.out (ilt a (2305843009213688669 : Int))) := by kernel_rfl


theorem fright.ok : ∀ d, fright.Pre d → arun Try.prog fright.G fright.an 0 Try.f72 (fright.st d).1 (fright.st d).2 some = some (fright.out (fright.add d (fright.F d))) := by
  intro a _
  rw [fright.eq]
  rfl

theorem fright.inj : ∀ d d', fright.st d = fright.st d' → d = d' := fun a a' hEq => by
  have e0 : a = a' := d_inj (t := (.int .u64)) (congrArg (fun s : List AVal × List Ent => (s.1.getD 0 .undef)) hEq)
  rw [e0]
noncomputable def fright.E : Entry := Entry.of [some (.int .u64)] fright.st fright.Pre (fun d => fright.add d (fright.F d)) fright.out
noncomputable def fright.call : fright.D → Option fright.X := fun d => fright.E.run (fright.st d).1 (fright.st d).2
theorem fright.run {d : fright.D} (h : fright.Pre d) : fright.call d = some (fright.add d (fright.F d)) := Entry.of_run fright.inj h
theorem fright.does : Does Try.prog 72 fright.E := Does.of (by kernel_rfl) (show Sound _ fright.G from Sound.nil _) (by kernel_rfl) (by kernel_rfl) (by kernel_rfl) (LOk.fn 0 (by kernel_rfl) trivial) fright.ok

/-! ### corsned/field.of -/
abbrev fof.D := Int
def fof.st : fof.D → List AVal × List Ent := fun a => ([.d (.int .u64) a], [])
abbrev fof.Y := Int
abbrev fof.X := Int
def fof.out : fof.X → GRes := fun x => ⟨.d (.int .u64) x, [], []⟩
def fof.add : fof.D → fof.Y → fof.X := fun a y => y


def fof.Pre : fof.D → Prop := fun a => U64 a
def fof.F : fof.D → fof.Y := fun a => ofQ a

noncomputable def fof.G : Gam := gnil
noncomputable def fof.an : Ann := {
  objs := [],
  loops := fun r => { keep := [], sites := [], frz := [], data := [], owns := [] },
  outs := fun r b => { keep := [], sites := [], frz := [], data := [], owns := [] },
  sums := fun r => none,
  owns := [],
  trim := [],
  res := [] }
theorem fof.eq {R : Type} (a : Int) (k : GRes → Option R) : arun Try.prog fof.G fof.an 0 Try.f93 (fof.st a).1 (fof.st a).2 k =
  k (fof.out (irem a (2305843009213688669 : Int))) := by kernel_rfl


theorem fof.ok : ∀ d, fof.Pre d → arun Try.prog fof.G fof.an 0 Try.f93 (fof.st d).1 (fof.st d).2 some = some (fof.out (fof.add d (fof.F d))) := by
  intro a ha
  rw [fof.eq, irem_nn ha.1]
  rfl

theorem fof.inj : ∀ d d', fof.st d = fof.st d' → d = d' := fun a a' hEq => by
  have e0 : a = a' := d_inj (t := (.int .u64)) (congrArg (fun s : List AVal × List Ent => (s.1.getD 0 .undef)) hEq)
  rw [e0]
noncomputable def fof.E : Entry := Entry.of [some (.int .u64)] fof.st fof.Pre (fun d => fof.add d (fof.F d)) fof.out
noncomputable def fof.call : fof.D → Option fof.X := fun d => fof.E.run (fof.st d).1 (fof.st d).2
theorem fof.run {d : fof.D} (h : fof.Pre d) : fof.call d = some (fof.add d (fof.F d)) := Entry.of_run fof.inj h
theorem fof.does : Does Try.prog 93 fof.E := Does.of (by kernel_rfl) (show Sound _ fof.G from Sound.nil _) (by kernel_rfl) (by kernel_rfl) (by kernel_rfl) (LOk.fn 0 (by kernel_rfl) trivial) fof.ok

/-! ### (corsned/field.num).plus -/
abbrev fplus.D := Int × Int
def fplus.st : fplus.D → List AVal × List Ent := fun (a, b) => ([.d (.int .u64) a, .d (.int .u64) b], [])
abbrev fplus.Y := Int
abbrev fplus.X := Int
def fplus.out : fplus.X → GRes := fun x => ⟨.d (.int .u64) x, [], []⟩
def fplus.add : fplus.D → fplus.Y → fplus.X := fun (a, b) y => y


def fplus.Pre : fplus.D → Prop := fun (a, b) => Qn a ∧ Qn b
def fplus.F : fplus.D → fplus.Y := fun (a, b) => (a + b) % 2305843009213688669

noncomputable def fplus.G : Gam := gnil
noncomputable def fplus.an : Ann := {
  objs := [],
  loops := fun r => { keep := [], sites := [], frz := [], data := [], owns := [] },
  outs := fun r b => { keep := [], sites := [], frz := [], data := [], owns := [] },
  sums := fun r => none,
  owns := [],
  trim := [],
  res := [] }
theorem fplus.eq {R : Type} (a : Int) (b : Int) (k : GRes → Option R) : arun Try.prog fplus.G fplus.an 0 Try.f94 (fplus.st (a, b)).1 (fplus.st (a, b)).2 k =
  k (fplus.out (irem (iadd .u64 a b) (2305843009213688669 : Int))) := by kernel_rfl


theorem fplus.ok : ∀ d, fplus.Pre d → arun Try.prog fplus.G fplus.an 0 Try.f94 (fplus.st d).1 (fplus.st d).2 some = some (fplus.out (fplus.add d (fplus.F d))) := by
  rintro ⟨a, b⟩ ⟨ha, hb⟩
  have ha : Qn a := ha
  have hb : Qn b := hb
  obtain ⟨h1, h2⟩ := ha
  obtain ⟨h3, h4⟩ := hb
  have e : iadd .u64 a b = a + b := by rw [iadd_um]; omega
  rw [fplus.eq, e, irem_nn (by omega)]
  rfl

theorem fplus.inj : ∀ d d', fplus.st d = fplus.st d' → d = d' := fun (a, b) (a', b') hEq => by
  have e0 : a = a' := d_inj (t := (.int .u64)) (congrArg (fun s : List AVal × List Ent => (s.1.getD 0 .undef)) hEq)
  have e1 : b = b' := d_inj (t := (.int .u64)) (congrArg (fun s : List AVal × List Ent => (s.1.getD 1 .undef)) hEq)
  rw [e0, e1]
noncomputable def fplus.E : Entry := Entry.of [some (.int .u64), some (.int .u64)] fplus.st fplus.Pre (fun d => fplus.add d (fplus.F d)) fplus.out
noncomputable def fplus.call : fplus.D → Option fplus.X := fun d => fplus.E.run (fplus.st d).1 (fplus.st d).2
theorem fplus.run {d : fplus.D} (h : fplus.Pre d) : fplus.call d = some (fplus.add d (fplus.F d)) := Entry.of_run fplus.inj h
theorem fplus.does : Does Try.prog 94 fplus.E := Does.of (by kernel_rfl) (show Sound _ fplus.G from Sound.nil _) (by kernel_rfl) (by kernel_rfl) (by kernel_rfl) (LOk.fn 0 (by kernel_rfl) trivial) fplus.ok

/-! ### (corsned/field.num).times -/
abbrev ftimes.D := Int × Int
def ftimes.st : ftimes.D → List AVal × List Ent := fun (a, b) => ([.d (.int .u64) a, .d (.int .u64) b], [])
abbrev ftimes.Y := Int
abbrev ftimes.X := Int
def ftimes.out : ftimes.X → GRes := fun x => ⟨.d (.int .u64) x, [], []⟩
def ftimes.add : ftimes.D → ftimes.Y → ftimes.X := fun (a, b) y => y


def ftimes.Pre : ftimes.D → Prop := fun (a, b) => Qn a ∧ Qn b
def ftimes.F : ftimes.D → ftimes.Y := fun (a, b) => a * b % 2305843009213688669

noncomputable def ftimes.G : Gam := gcons 86 anyArgs mul64.E (gcons 85 anyArgs rem64.E (gnil))
noncomputable def ftimes.an : Ann := {
  objs := [],
  loops := fun r => { keep := [], sites := [], frz := [], data := [], owns := [] },
  outs := fun r b => { keep := [], sites := [], frz := [], data := [], owns := [] },
  sums := fun r => none,
  owns := [],
  trim := [],
  res := [] }
theorem ftimes.eq {R : Type} (a : Int) (b : Int) (k : GRes → Option R) : arun Try.prog ftimes.G ftimes.an 0 Try.f95 (ftimes.st (a, b)).1 (ftimes.st (a, b)).2 k =
  obind (mul64.call (a, b)) fun x1 =>
  obind (rem64.call (x1.1, x1.2, (2305843009213688669 : Int))) fun x2 =>
  k (ftimes.out x2) := by kernel_rfl


theorem ftimes.ok : ∀ d, ftimes.Pre d → arun Try.prog ftimes.G ftimes.an 0 Try.f95 (ftimes.st d).1 (ftimes.st d).2 some = some (ftimes.out (ftimes.add d (ftimes.F d))) := by
  rintro ⟨a, b⟩ ⟨ha, hb⟩
  have ha : Qn a := ha
  have hb : Qn b := hb
  obtain ⟨m1, m2⟩ := mul_le ha.1 (show a ≤ 18446744073709551615 by have := ha.2; omega) hb.1 (show b ≤ 18446744073709551615 by have := hb.2; omega)
  have n : (18446744073709551615 : Int) * 18446744073709551615 = 340282366920938463426481119284349108225 := rfl
  rw [n] at m2
  have p : rem64.Pre (a * b / 18446744073709551616, a * b % 18446744073709551616, 2305843009213688669) := ⟨Or.inr (Or.inl rfl), by omega, by omega, by omega, by omega⟩
  rw [ftimes.eq, mul64.run (d := (a, b)) ⟨ha.u, hb.u⟩]
  simp only [obind_some, mul64.add, mul64.F]
  rw [rem64.run p]
  simp only [obind_some, rem64.add, rem64.F, two_digits]
  rfl

theorem ftimes.inj : ∀ d d', ftimes.st d = ftimes.st d' → d = d' := fun (a, b) (a', b') hEq => by
  have e0 : a = a' := d_inj (t := (.int .u64)) (congrArg (fun s : List AVal × List Ent => (s.1.getD 0 .undef)) hEq)
  have e1 : b = b' := d_inj (t := (.int .u64)) (congrArg (fun s : List AVal × List Ent => (s.1.getD 1 .undef)) hEq)
  rw [e0, e1]
noncomputable def ftimes.E : Entry := Entry.of [some (.int .u64), some (.int .u64)] ftimes.st ftimes.Pre (fun d => ftimes.add d (ftimes.F d)) ftimes.out
noncomputable def ftimes.call : ftimes.D → Option ftimes.X := fun d => ftimes.E.run (ftimes.st d).1 (ftimes.st d).2
theorem ftimes.run {d : ftimes.D} (h : ftimes.Pre d) : ftimes.call d = some (ftimes.add d (ftimes.F d)) := Entry.of_run ftimes.inj h
theorem ftimes.does : Does Try.prog 95 ftimes.E := Does.of (by kernel_rfl) (show Sound _ ftimes.G from Sound.cons mul64.does (Sound.cons rem64.does (Sound.nil _))) (by kernel_rfl) (by kernel_rfl) (by kernel_rfl) (LOk.fn 0 (by kernel_rfl) trivial) ftimes.ok

/-! ### corsned/field.Add -/
abbrev fadd.D := Int × Int
def fadd.st : fadd.D → List AVal × List Ent := fun (a, b) => ([.d (.int .u64) a, .d (.int .u64) b], [])
abbrev fadd.Y := Int
abbrev fadd.X := Int
def fadd.out : fadd.X → GRes := fun x => ⟨.d (.int .u64) x, [], []⟩
def fadd.add : fadd.D → fadd.Y → fadd.X := fun (a, b) y => y


def fadd.Pre : fadd.D → Prop := fun (a, b) => U64 a ∧ U64 b
def fadd.F : fadd.D → fadd.Y := fun (a, b) => addQ a b

noncomputable def fadd.G : Gam := gcons 93 anyArgs fof.E (gcons 94 anyArgs fplus.E (gnil))
noncomputable def fadd.an : Ann := {
  objs := [],
  loops := fun r => { keep := [], sites := [], frz := [], data := [], owns := [] },
  outs := fun r b => { keep := [], sites := [], frz := [], data := [], owns := [] },
  sums := fun r => none,
  owns := [],
  trim := [],
  res := [] }
theorem fadd.eq {R : Type} (a : Int) (b : Int) (k : GRes → Option R) : arun Try.prog fadd.G fadd.an 0 Try.f83 (fadd.st (a, b)).1 (fadd.st (a, b)).2 k =
  obind (fof.call a) fun x1 =>
  obind (fof.call b) fun x2 =>
  obind (fplus.call (x1, x2)) fun x3 =>
  k (fadd.out x3) := by kernel_rfl


theorem fadd.ok : ∀ d, fadd.Pre d → arun Try.prog fadd.G fadd.an 0 Try.f83 (fadd.st d).1 (fadd.st d).2 some = some (fadd.out (fadd.add d (fadd.F d))) := by
  rintro ⟨a, b⟩ ⟨ha, hb⟩
  rw [fadd.eq, fof.run (d := a) ha, fof.run (d := b) hb]
  simp only [obind_some, fof.add, fof.F]
  rw [fplus.run (d := (ofQ a, ofQ b)) ⟨ofQ_ok a, ofQ_ok b⟩]
  rfl

theorem fadd.inj : ∀ d d', fadd.st d = fadd.st d' → d = d' := fun (a, b) (a', b') hEq => by
  have e0 : a = a' := d_inj (t := (.int .u64)) (congrArg (fun s : List AVal × List Ent => (s.1.getD 0 .undef)) hEq)
  have e1 : b = b' := d_inj (t := (.int .u64)) (congrArg (fun s : List AVal × List Ent => (s.1.getD 1 .undef)) hEq)
  rw [e0, e1]
noncomputable def fadd.E : Entry := Entry.of [some (.int .u64), some (.int .u64)] fadd.st fadd.Pre (fun d => fadd.add d (fadd.F d)) fadd.out
noncomputable def fadd.call : fadd.D → Option fadd.X := fun d => fadd.E.run (fadd.st d).1 (fadd.st d).2
theorem fadd.run {d : fadd.D} (h : fadd.Pre d) : fadd.call d = some (fadd.add d (fadd.F d)) := Entry.of_run fadd.inj h
theorem fadd.does : Does Try.prog 83 fadd.E := Does.of (by kernel_rfl) (show Sound _ fadd.G from Sound.cons fof.does (Sound.cons fplus.does (Sound.nil _))) (by kernel_rfl) (by kernel_rfl) (by kernel_rfl) (LOk.fn 0 (by kernel_rfl) trivial) fadd.ok

/-! ### corsned/field.Mul -/
abbrev fmul.D := Int × Int
def fmul.st : fmul.D → List AVal × List Ent := fun (a, b) => ([.d (.int .u64) a, .d (.int .u64) b], [])
abbrev fmul.Y := Int
abbrev fmul.X := Int
def fmul.out : fmul.X → GRes := fun x => ⟨.d (.int .u64) x, [], []⟩
def fmul.add : fmul.D → fmul.Y → fmul.X := fun (a, b) y => y


def fmul.Pre : fmul.D → Prop := fun (a, b) => U64 a ∧ U64 b
def fmul.F : fmul.D → fmul.Y := fun (a, b) => mulQ a b

noncomputable def fmul.G : Gam := gcons 93 anyArgs fof.E (gcons 95 anyArgs ftimes.E (gnil))
noncomputable def fmul.an : Ann := {
  objs := [],
  loops := fun r => { keep := [], sites := [], frz := [], data := [], owns := [] },
  outs := fun r b => { keep := [], sites := [], frz := [], data := [], owns := [] },
  sums := fun r => none,
  owns := [],
  trim := [],
  res := [] }
theorem fmul.eq {R : Type} (a : Int) (b : Int) (k : GRes → Option R) : arun Try.prog fmul.G fmul.an 0 Try.f84 (fmul.st (a, b)).1 (fmul.st (a, b)).2 k =
  obind (fof.call a) fun x1 =>
  obind (fof.call b) fun x2 =>
  obind (ftimes.call (x1, x2)) fun x3 =>
  k (fmul.out x3) := by kernel_rfl


theorem fmul.ok : ∀ d, fmul.Pre d → arun Try.prog fmul.G fmul.an 0 Try.f84 (fmul.st d).1 (fmul.st d).2 some = some (fmul.out (fmul.add d (fmul.F d))) := by
  rintro ⟨a, b⟩ ⟨ha, hb⟩
  rw [fmul.eq, fof.run (d := a) ha, fof.run (d := b) hb]
  simp only [obind_some, fof.add, fof.F]
  rw [ftimes.run (d := (ofQ a, ofQ b)) ⟨ofQ_ok a, ofQ_ok b⟩]
  rfl

theorem fmul.inj : ∀ d d', fmul.st d = fmul.st d' → d = d' := fun (a, b) (a', b') hEq => by
  have e0 : a = a' := d_inj (t := (.int .u64)) (congrArg (fun s : List AVal × List Ent => (s.1.getD 0 .undef)) hEq)
  have e1 : b = b' := d_inj (t := (.int .u64)) (congrArg (fun s : List AVal × List Ent => (s.1.getD 1 .undef)) hEq)
  rw [e0, e1]
noncomputable def fmul.E : Entry := Entry.of [some (.int .u64), some (.int .u64)] fmul.st fmul.Pre (fun d => fmul.add d (fmul.F d)) fmul.out
noncomputable def fmul.call : fmul.D → Option fmul.X := fun d => fmul.E.run (fmul.st d).1 (fmul.st d).2
theorem fmul.run {d : fmul.D} (h : fmul.Pre d) : fmul.call d = some (fmul.add d (fmul.F d)) := Entry.of_run fmul.inj h
theorem fmul.does : Does Try.prog 84 fmul.E := Does.of (by kernel_rfl) (show Sound _ fmul.G from Sound.cons fof.does (Sound.cons ftimes.does (Sound.nil _))) (by kernel_rfl) (by kernel_rfl) (by kernel_rfl) (LOk.fn 0 (by kernel_rfl) trivial) fmul.ok

/-! ### corsned/field.From -/
abbrev ffrom.L0.D := Int × (List Int) × Int
def ffrom.L0.st : ffrom.L0.D → AS := fun (n, t6, t7) => ⟨([.undef, .undef, .undef, .d (.int .u64) n, .undef, .undef, .d (.arr 32 (.int .u8)) t6, .d (.int .i64) t7] ++ undN 13 []), [], (List.replicate 21 [])⟩
abbrev ffrom.L0.Y0 := Int  -- n
abbrev ffrom.L0.X0 := Int
def ffrom.L0.ex0 : ffrom.L0.X0 → Exit × AS := fun x => (.exit 0, ⟨([.undef, .undef, .undef, .d (.int .u64) x] ++ undN 17 []), [], (List.replicate 21 [])⟩)
abbrev ffrom.L0.X := ffrom.L0.X0
abbrev ffrom.L0.Y := ffrom.L0.Y0
def ffrom.L0.out : ffrom.L0.X → Out (Exit × AS) := fun x => .ok (ffrom.L0.ex0 x)
def ffrom.L0.add : ffrom.L0.D → ffrom.L0.Y → ffrom.L0.X := fun (n, t6, t7) y => y
abbrev ffrom.D := (List Int)
def ffrom.st : ffrom.D → List AVal × List Ent := fun h => ([.d (.arr 32 (.int .u8)) h], [])
abbrev ffrom.Y := Int
abbrev ffrom.X := Int
def ffrom.out : ffrom.X → GRes := fun x => ⟨.d (.int .u64) x, [], []⟩
def ffrom.add : ffrom.D → ffrom.Y → ffrom.X := fun h y => y


def ffrom.L0.Pre : ffrom.L0.D → Prop := fun (n, h, i) => From.b n ∧ h.length = 32 ∧ Bytes h ∧ ∃ k : Nat, k ≤ 32 ∧ i = k
def ffrom.L0.F : ffrom.L0.D → ffrom.L0.Y := fun (n, h, i) => (h.drop i.toNat).foldl (fun n b => (n * 256 + b) % 2305843009213688668) n
def ffrom.Pre : ffrom.D → Prop := fun h => h.length = 32 ∧ Bytes h
def ffrom.F : ffrom.D → ffrom.Y := fun h => fromQ h

noncomputable def ffrom.G : Gam := gcons 85 anyArgs rem64.E (gnil)
noncomputable def ffrom.L0.E : LEntry := LEntry.of ffrom.L0.st ffrom.L0.Pre (fun d => ffrom.L0.add d (ffrom.L0.F d)) ffrom.L0.out
noncomputable def ffrom.L0.call : ffrom.L0.D → Option ffrom.L0.X := fun d => ffrom.L0.E.run (ffrom.L0.st d)
noncomputable def ffrom.an : Ann := {
  objs := [],
  loops := fun r => bif Nat.beq r 3 then { keep := [3, 6, 7], sites := [], frz := [], data := [], owns := [] } else { keep := [], sites := [], frz := [], data := [], owns := [] },
  outs := fun r b => bif Nat.beq r 3 then (bif b then { keep := [2], sites := [], frz := [], data := [], owns := [] } else { keep := [3], sites := [], frz := [], data := [], owns := [] }) else { keep := [], sites := [], frz := [], data := [], owns := [] },
  sums := fun r => bif Nat.beq r 3 then some ffrom.L0.E else none,
  owns := [],
  trim := [],
  res := [] }
theorem ffrom.L0.inj : ∀ d d', ffrom.L0.st d = ffrom.L0.st d' → d = d' := fun (n, t6, t7) (n', t6', t7') hEq => by
  have e0 : n = n' := d_inj (t := (.int .u64)) (congrArg (fun s : AS => (s.slot 3)) hEq)
  have e1 : t6 = t6' := d_inj (t := (.arr 32 (.int .u8))) (congrArg (fun s : AS => (s.slot 6)) hEq)
  have e2 : t7 = t7' := d_inj (t := (.int .i64)) (congrArg (fun s : AS => (s.slot 7)) hEq)
  rw [e0, e1, e2]
theorem ffrom.L0.run {d : ffrom.L0.D} (h : ffrom.L0.Pre d) : ffrom.L0.call d = some (ffrom.L0.add d (ffrom.L0.F d)) := LEntry.of_run ffrom.L0.inj h
theorem ffrom.L0.byRounds (μ : ffrom.L0.D → Nat) (h : ∀ d, ffrom.L0.Pre d → (∃ d', ffrom.L0.Pre d' ∧ μ d' < μ d ∧ ffrom.L0.add d' (ffrom.L0.F d') = ffrom.L0.add d (ffrom.L0.F d) ∧ ∀ {R : Type} (kn : AS → Option R) (kx : Exit → AS → Option R), lround Try.prog ffrom.G ffrom.an 0 Try.f63 0 (ffrom.L0.st d) kn kx = kn (ffrom.L0.st d')) ∨ (∀ {R : Type} (kn : AS → Option R) (kx : Exit → AS → Option R), lround Try.prog ffrom.G ffrom.an 0 Try.f63 0 (ffrom.L0.st d) kn kx = kx (ffrom.L0.ex0 (ffrom.L0.add d (ffrom.L0.F d))).1 (ffrom.L0.ex0 (ffrom.L0.add d (ffrom.L0.F d))).2)) : ∀ d, ffrom.L0.Pre d → ∃ n, lrun Try.prog ffrom.G ffrom.an 0 Try.f63 0 n (ffrom.L0.st d) (fun e s => some (e, s)) = (ffrom.L0.out (ffrom.L0.add d (ffrom.L0.F d))).eval := lrun_one (F := fun d => ffrom.L0.add d (ffrom.L0.F d)) μ h
theorem ffrom.L0.step {R : Type} (n : Int) (t6 : (List Int)) (t7 : Int) (kn : AS → Option R) (kx : Exit → AS → Option R) : lround Try.prog ffrom.G ffrom.an 0 Try.f63 0 (ffrom.L0.st (n, t6, t7)) kn kx =
  sel ((ilt t7 (32 : Int))) (
   sel (inb t7 (32 : Int)) (
   obind (rem64.call ((ishr .u64 n (56 : Int)), (bitop .or .u64 (ishl .u64 n (8 : Int)) (icv .u64 (nth (.int .u8) t6 (Int.toNat t7)))), (2305843009213688668 : Int))) fun x1 =>
   kn (ffrom.L0.st (x1, t6, (iadd .i64 t7 (1 : Int))))) none) (
   kx (ffrom.L0.ex0 n).1 (ffrom.L0.ex0 n).2) := by kernel_rfl
theorem ffrom.eq {R : Type} (h : (List Int)) (k : GRes → Option R) : arun Try.prog ffrom.G ffrom.an 0 Try.f63 (ffrom.st h).1 (ffrom.st h).2 k =
  obind (ffrom.L0.call ((0 : Int), h, (0 : Int))) fun x2 =>
  k (ffrom.out (iadd .u64 x2 (1 : Int))) := by kernel_rfl


theorem from_digits {n b : Int} (hn : From.b n) (hb : Byte b) : ishr .u64 n 56 * 18446744073709551616 + bitop .or .u64 (ishl .u64 n 8) (icv .u64 b) = n * 256 + b ∧ U64 (ishr .u64 n 56) ∧ U64 (bitop .or .u64 (ishl .u64 n 8) (icv .u64 b)) := by
  obtain ⟨h1, h2⟩ := hn
  obtain ⟨h3, h4⟩ := hb
  have p56 : (2 : Int) ^ 56 = 72057594037927936 := rfl
  have p8 : (2 : Int) ^ 8 = 256 := rfl
  have e : icv .u64 b = b := by rw [icv_um]; omega
  rw [shr_u64 56 (by rfl) (by omega), shl_u64 8 (by rfl) (by omega), p56, p8, e, or_apart 8 256 rfl (by omega) (by omega) (by omega) (by omega) (by omega) (by omega)]
  exact ⟨by omega, ⟨by omega, by omega⟩, by omega, by omega⟩
theorem ffrom.L0.ok : ∀ d, ffrom.L0.Pre d → ∃ n, lrun Try.prog ffrom.G ffrom.an 0 Try.f63 0 n (ffrom.L0.st d) (fun e s => some (e, s)) = (ffrom.L0.out (ffrom.L0.add d (ffrom.L0.F d))).eval := by
  refine ffrom.L0.byRounds (fun (n, h, i) => 32 - i.toNat) ?_
  rintro ⟨n, h, i⟩ ⟨hn, hl, hb, k, hk, rfl⟩
  have hn : From.b n := hn
  have hl : h.length = 32 := hl
  have hb : Bytes h := hb
  by_cases hlt : k < 32
  · left
    have hx : Byte (h[k]'(by omega)) := hb _ (List.getElem_mem _)
    have n1 : nth (.int .u8) h k = h[k]'(by omega) := nth_lt (t := .int .u8) (by omega)
    obtain ⟨d1, d2, d3⟩ := from_digits hn hx
    refine ⟨((n * 256 + h[k]'(by omega)) % 2305843009213688668, h, ((k + 1 : Nat) : Int)), ⟨⟨by omega, by omega⟩, hl, hb, k + 1, by omega, rfl⟩, by simp only [Int.toNat_natCast]; omega, ?_, fun kn kx => ?_⟩
    · simp only [ffrom.L0.add, ffrom.L0.F, Int.toNat_natCast]
      rw [List.drop_eq_getElem_cons (by omega : k < h.length)]
      rfl
    · rw [ffrom.L0.step]
      simp (disch := omega) only [↓N.lt, ↓N.le, ↓N.gt, ↓N.ge, ↓N.eq, ↓N.ne, ↓N.ib, ↓N.ic, ↓N.nn, ↓N.nz, ↓N.dc, ↓N.rm, ↓N.an, ↓N.or, ↓N.no, ↓if_pos, ↓if_neg, ↓sel_true, ↓sel_false, ↓obind_some, if_pos, if_neg, obind_some, N.aNN, N.aNL, N.aLN, N.sNN, N.sNL, N.sLN, N.mNN, N.mNL, N.mLN, N.qNN, N.qNL, N.rNN, N.rNL, N.cN, N.cL, N.tL, Int.toNat_natCast, if_true, if_false, and_self, true_and, and_true, n1]
      rw [rem64.run (d := (_, _, 2305843009213688668)) ⟨Or.inr (Or.inr rfl), d2.1, d2.2, d3.1, d3.2⟩]
      simp only [obind_some, rem64.add, rem64.F, d1]
  · right
    obtain rfl : k = 32 := by omega
    intro R kn kx
    rw [ffrom.L0.step]
    simp (disch := omega) only [↓N.lt, ↓N.le, ↓N.gt, ↓N.ge, ↓N.eq, ↓N.ne, ↓N.ib, ↓N.ic, ↓N.nn, ↓N.nz, ↓N.dc, ↓N.rm, ↓N.an, ↓N.or, ↓N.no, ↓if_pos, ↓if_neg, ↓sel_true, ↓sel_false, ↓obind_some, if_pos, if_neg, obind_some, N.aNN, N.aNL, N.aLN, N.sNN, N.sNL, N.sLN, N.mNN, N.mNL, N.mLN, N.qNN, N.qNL, N.rNN, N.rNL, N.cN, N.cL, N.tL, Int.toNat_natCast, if_true, if_false, and_self, true_and, and_true, ffrom.L0.add, ffrom.L0.F]
    rw [List.drop_of_length_le (by omega)]
    rfl
theorem ffrom.ok : ∀ d, ffrom.Pre d → arun Try.prog ffrom.G ffrom.an 0 Try.f63 (ffrom.st d).1 (ffrom.st d).2 some = some (ffrom.out (ffrom.add d (ffrom.F d))) := by
  rintro h ⟨hl, hb⟩
  have e := fromF_ok h 0 ⟨by omega, by omega⟩
  have h1 := e.1
  have h2 := e.2
  rw [ffrom.eq, ffrom.L0.run (d := (0, h, 0)) ⟨⟨by omega, by omega⟩, hl, hb, 0, by omega, rfl⟩]
  simp only [obind_some, ffrom.L0.add, ffrom.L0.F, ffrom.add, ffrom.F, fromQ, Int.toNat_zero, List.drop_zero]
  revert h1 h2
  generalize h.foldl (fun n b => (n * 256 + b) % 2305843009213688668) 0 = m
  intro h1 h2
  have e : iadd .u64 m 1 = m + 1 := by rw [iadd_um]; omega
  rw [e]

theorem ffrom.inj : ∀ d d', ffrom.st d = ffrom.st d' → d = d' := fun h h' hEq => by
  have e0 : h = h' := d_inj (t := (.arr 32 (.int .u8))) (congrArg (fun s : List AVal × List Ent => (s.1.getD 0 .undef)) hEq)
  rw [e0]
noncomputable def ffrom.E : Entry := Entry.of [some (.arr 32 (.int .u8))] ffrom.st ffrom.Pre (fun d => ffrom.add d (ffrom.F d)) ffrom.out
noncomputable def ffrom.call : ffrom.D → Option ffrom.X := fun d => ffrom.E.run (ffrom.st d).1 (ffrom.st d).2
theorem ffrom.run {d : ffrom.D} (h : ffrom.Pre d) : ffrom.call d = some (ffrom.add d (ffrom.F d)) := Entry.of_run ffrom.inj h
theorem ffrom.does : Does Try.prog 63 ffrom.E := Does.of (by kernel_rfl) (show Sound _ ffrom.G from Sound.cons rem64.does (Sound.nil _)) (by kernel_rfl) (by kernel_rfl) (by kernel_rfl) (LOk.fn 1 (by kernel_rfl) (And.intro (LDo.of (by kernel_rfl) ffrom.L0.ok) trivial)) ffrom.ok

end Go.Ab
