/-
  Made by a program of mine (wip/gen), and by hand.
-/
import Derived.Test.YtglpcfdjdabdnaaGp1
import Derived.Test.YtglpcfdjdabdnaaRp2
import Derived.Test.YtglpcfdjdabdnaaLk2
namespace Go.Ab
open Go.Proofs
set_option maxRecDepth 100000
set_option linter.unusedVariables false
set_option linter.unusedSimpArgs false

/-! ### corsned/corsnedref07.eight -/
abbrev r7eight.D := Int
def r7eight.st : r7eight.D → List AVal × List Ent := fun p => ([.d (.int .u64) p], [])
abbrev r7eight.Y := (List Int)
abbrev r7eight.X := (List Int)
def r7eight.out : r7eight.X → GRes := fun x => ⟨.d (.slice (.int .u8)) x, [], []⟩
def r7eight.add : r7eight.D → r7eight.Y → r7eight.X := fun p y => y


def r7eight.Pre : r7eight.D → Prop := fun n => U64 n
def r7eight.F : r7eight.D → r7eight.Y := fun n => be8 n

noncomputable def r7eight.G : Gam := gcons 98 anyArgs rlong.E (gnil)
noncomputable def r7eight.an : Ann := {
  objs := [],
  loops := fun r => { keep := [], sites := [], frz := [], data := [], owns := [] },
  outs := fun r b => { keep := [], sites := [], frz := [], data := [], owns := [] },
  sums := fun r => none,
  owns := [],
  trim := [],
  res := [some (.slice (.int .u8))] }
theorem r7eight.eq {R : Type} (p : Int) (k : GRes → Option R) : arun Try.prog r7eight.G r7eight.an 0 Try.f92 (r7eight.st p).1 (r7eight.st p).2 k =
  obind (rlong.call p) fun x1 =>
  sel (decide (0 = 0 ∧ (0 + x1.1) ≤ (List.length x1.2))) (
  k (r7eight.out (cut x1.2 0 x1.1))) none := by kernel_rfl


theorem r7eight.ok : ∀ d, r7eight.Pre d → arun Try.prog r7eight.G r7eight.an 0 Try.f92 (r7eight.st d).1 (r7eight.st d).2 some = some (r7eight.out (r7eight.add d (r7eight.F d))) := by
  intro n hn
  rw [r7eight.eq, rlong.run (d := n) hn]
  simp only [obind_some, rlong.add, rlong.F, be8_length, Nat.zero_add, Nat.le_refl, and_self, decide_true, sel_true]
  rw [cut_len (be8_length _)]
  rfl

theorem r7eight.inj : ∀ d d', r7eight.st d = r7eight.st d' → d = d' := fun p p' hEq => by
  have e0 : p = p' := d_inj (t := (.int .u64)) (congrArg (fun s : List AVal × List Ent => (s.1.getD 0 .undef)) hEq)
  rw [e0]
noncomputable def r7eight.E : Entry := Entry.of [some (.int .u64)] r7eight.st r7eight.Pre (fun d => r7eight.add d (r7eight.F d)) r7eight.out
noncomputable def r7eight.call : r7eight.D → Option r7eight.X := fun d => r7eight.E.run (r7eight.st d).1 (r7eight.st d).2
theorem r7eight.run {d : r7eight.D} (h : r7eight.Pre d) : r7eight.call d = some (r7eight.add d (r7eight.F d)) := Entry.of_run r7eight.inj h
theorem r7eight.does : Does Try.prog 92 r7eight.E := Does.of (by kernel_rfl) (show Sound _ r7eight.G from Sound.cons rlong.does (Sound.nil _)) (by kernel_rfl) (by kernel_rfl) (by kernel_rfl) (LOk.fn 0 (by kernel_rfl) trivial) r7eight.ok

/-! ### corsned/corsnedref07.challenge -/
abbrev r7chall.D := Int × Int × (List Int)
def r7chall.st : r7chall.D → List AVal × List Ent := fun (r, p, m) => ([.d (.int .u64) r, .d (.int .u64) p, .d (.arr 32 (.int .u8)) m], [])
abbrev r7chall.Y := Int
abbrev r7chall.X := Int
def r7chall.out : r7chall.X → GRes := fun x => ⟨.d (.int .u64) x, [], []⟩
def r7chall.add : r7chall.D → r7chall.Y → r7chall.X := fun (r, p, m) y => y


def r7chall.Pre : r7chall.D → Prop := fun (r, p, m) => U64 r ∧ U64 p ∧ Sm m
def r7chall.F : r7chall.D → r7chall.Y := fun (r, p, m) => chalQ r p m

noncomputable def r7chall.G : Gam := gcons 92 anyArgs r7eight.E (gcons 91 anyArgs rtag.E (gcons 90 anyArgs r5from.E (gnil)))
noncomputable def r7chall.an : Ann := {
  objs := [],
  loops := fun r => { keep := [], sites := [], frz := [], data := [], owns := [] },
  outs := fun r b => { keep := [], sites := [], frz := [], data := [], owns := [] },
  sums := fun r => none,
  owns := [],
  trim := [],
  res := [] }
theorem r7chall.eq {R : Type} (r : Int) (p : Int) (m : (List Int)) (k : GRes → Option R) : arun Try.prog r7chall.G r7chall.an 0 Try.f81 (r7chall.st (r, p, m)).1 (r7chall.st (r, p, m)).2 k =
  obind (r7eight.call r) fun x1 =>
  obind (r7eight.call p) fun x2 =>
  obind (rtag.call ((⟨#[115, 105, 103]⟩ : ByteArray), [x1, x2, (cut m 0 32)])) fun x3 =>
  obind (r5from.call x3) fun x4 =>
  k (r7chall.out x4) := by kernel_rfl


theorem r7chall.ok : ∀ d, r7chall.Pre d → arun Try.prog r7chall.G r7chall.an 0 Try.f81 (r7chall.st d).1 (r7chall.st d).2 some = some (r7chall.out (r7chall.add d (r7chall.F d))) := by
  rintro ⟨r, p, m⟩ ⟨hr, hp, hm⟩
  have hm : Sm m := hm
  have hp3 : rtag.Pre ((⟨#[115, 105, 103]⟩ : ByteArray), [be8 r, be8 p, m]) := tag_pre3 (by decide) (by rw [be8_length]; omega) (by rw [be8_length]; omega) (by rw [hm.1]; omega)
  rw [r7chall.eq, r7eight.run (d := r) hr, r7eight.run (d := p) hp]
  simp only [obind_some, r7eight.add, r7eight.F]
  rw [cut_len hm.1, rtag.run hp3]
  simp only [obind_some, rtag.add, rtag.F]
  rw [r5from.run (d := tag (bytesOfStr (⟨#[115, 105, 103]⟩ : ByteArray)) [be8 r, be8 p, m]) (sm_tag _ _)]
  rfl

theorem r7chall.inj : ∀ d d', r7chall.st d = r7chall.st d' → d = d' := fun (r, p, m) (r', p', m') hEq => by
  have e0 : r = r' := d_inj (t := (.int .u64)) (congrArg (fun s : List AVal × List Ent => (s.1.getD 0 .undef)) hEq)
  have e1 : p = p' := d_inj (t := (.int .u64)) (congrArg (fun s : List AVal × List Ent => (s.1.getD 1 .undef)) hEq)
  have e2 : m = m' := d_inj (t := (.arr 32 (.int .u8))) (congrArg (fun s : List AVal × List Ent => (s.1.getD 2 .undef)) hEq)
  rw [e0, e1, e2]
noncomputable def r7chall.E : Entry := Entry.of [some (.int .u64), some (.int .u64), some (.arr 32 (.int .u8))] r7chall.st r7chall.Pre (fun d => r7chall.add d (r7chall.F d)) r7chall.out
noncomputable def r7chall.call : r7chall.D → Option r7chall.X := fun d => r7chall.E.run (r7chall.st d).1 (r7chall.st d).2
theorem r7chall.run {d : r7chall.D} (h : r7chall.Pre d) : r7chall.call d = some (r7chall.add d (r7chall.F d)) := Entry.of_run r7chall.inj h
theorem r7chall.does : Does Try.prog 81 r7chall.E := Does.of (by kernel_rfl) (show Sound _ r7chall.G from Sound.cons r7eight.does (Sound.cons rtag.does (Sound.cons r5from.does (Sound.nil _)))) (by kernel_rfl) (by kernel_rfl) (by kernel_rfl) (LOk.fn 0 (by kernel_rfl) trivial) r7chall.ok


/-- The document's own equation. -/
def holdsL (p : Int) (m : List Int) (t : Int) (s : Sg) : Bool :=
  if isP p = false ∨ isP t = false ∨ isP s.1 = false ∨ ¬ s.2.1 < 2305843009213688669 ∨ p = 1 then false
  else decide (sumP [baseP s.2.1, t] = sumP [s.1, scaleP p (chalQ s.1 p m)])
theorem holds_checks (p : Int) (m : List Int) (s : Sg) : holdsL p m 1 s = checks p m 1 s := by
  unfold holdsL checks
  by_cases h : p = 1 ∨ isP p = false ∨ isP 1 = false ∨ isP s.1 = false ∨ ¬ s.2.1 < 2305843009213688669
  · rw [if_pos h, if_pos (by rcases h with h | h | h | h | h <;> simp [h])]
  · rw [if_neg h, if_neg (by
      intro h'
      apply h
      rcases h' with h' | h' | h' | h' | h' <;> simp [h'])]
    have e := checks_eq s.1 (scaleP p (chalQ s.1 p m)) s.2.1
    by_cases h2 : baseP s.2.1 = sumP [s.1, scaleP p (chalQ s.1 p m), negP 1]
    · rw [decide_eq_true h2, decide_eq_true (e ▸ h2)]
    · rw [decide_eq_false h2, decide_eq_false (e ▸ h2)]

/-! ### corsned/corsnedref07.holds -/
abbrev r7holds.D := Int × (List Int) × Int × (Int × (Int × Unit))
def r7holds.st : r7holds.D → List AVal × List Ent := fun (p, m, t, sv) => ([.d (.int .u64) p, .d (.arr 32 (.int .u8)) m, .d (.int .u64) t, .d (.pair (.int .u64) (.pair (.int .u64) .unit)) sv], [])
abbrev r7holds.Y := Bool
abbrev r7holds.X := Bool
def r7holds.out : r7holds.X → GRes := fun x => ⟨.d .bool x, [], []⟩
def r7holds.add : r7holds.D → r7holds.Y → r7holds.X := fun (p, m, t, sv) y => y


def r7holds.Pre : r7holds.D → Prop := fun (p, m, t, s) => U64 p ∧ Sm m ∧ U64 t ∧ SgU s
def r7holds.F : r7holds.D → r7holds.Y := fun (p, m, t, s) => holdsL p m t s

noncomputable def r7holds.G : Gam := gcons 76 anyArgs r6right.E (gcons 79 anyArgs r5right.E (gcons 34 anyArgs r6base.E (gcons 80 anyArgs r6add.E (gcons 81 anyArgs r7chall.E (gcons 58 anyArgs r6scale.E (gnil))))))
noncomputable def r7holds.an : Ann := {
  objs := [],
  loops := fun r => { keep := [], sites := [], frz := [], data := [], owns := [] },
  outs := fun r b => { keep := [], sites := [], frz := [], data := [], owns := [] },
  sums := fun r => none,
  owns := [],
  trim := [],
  res := [] }
theorem r7holds.eq {R : Type} (p : Int) (m : (List Int)) (t : Int) (sv : (Int × (Int × Unit))) (k : GRes → Option R) : arun Try.prog r7holds.G r7holds.an 0 Try.f59 (r7holds.st (p, m, t, sv)).1 (r7holds.st (p, m, t, sv)).2 k =
  obind (r6right.call p) fun x1 =>
  obind (r6right.call t) fun x2 =>
  obind (r6right.call sv.1) fun x3 =>
  obind (r5right.call sv.2.1) fun x4 =>
  sel ((!x1)) (
   k (r7holds.out false)) (
   sel ((!x2)) (
    k (r7holds.out false)) (
    sel ((!x3)) (
     k (r7holds.out false)) (
     sel ((!x4)) (
      k (r7holds.out false)) (
      sel ((ieq p (1 : Int))) (
       k (r7holds.out false)) (
       obind (r6base.call sv.2.1) fun x5 =>
       obind (r6add.call (x5, t)) fun x6 =>
       obind (r7chall.call (sv.1, p, m)) fun x7 =>
       obind (r6scale.call (p, x7)) fun x8 =>
       obind (r6add.call (sv.1, x8)) fun x9 =>
       k (r7holds.out (ieq x6 x9))))))) := by kernel_rfl


theorem r7holds.ok : ∀ d, r7holds.Pre d → arun Try.prog r7holds.G r7holds.an 0 Try.f59 (r7holds.st d).1 (r7holds.st d).2 some = some (r7holds.out (r7holds.add d (r7holds.F d))) := by
  rintro ⟨p, m, t, s⟩ ⟨hp, hm, ht, hs⟩
  have hp : U64 p := hp
  have ht : U64 t := ht
  have hm : Sm m := hm
  have hs : SgU s := hs
  rw [r7holds.eq, r6right.run (d := p) hp, r6right.run (d := t) ht, r6right.run (d := s.1) hs.1, r5right.run (d := s.2.1) trivial]
  simp only [obind_some, r6right.add, r6right.F, r5right.add, r5right.F, r7holds.add, r7holds.F, holdsL]
  cases h2 : isP p
  · rw [if_pos (Or.inl rfl)]; rfl
  cases h3 : isP t
  · rw [if_pos (Or.inr (Or.inl rfl))]; rfl
  cases h4 : isP s.1
  · rw [if_pos (Or.inr (Or.inr (Or.inl rfl)))]; rfl
  by_cases h5 : s.2.1 < 2305843009213688669
  · by_cases h1 : p = 1
    · rw [ilt_true h5, ieq_true h1, if_pos (Or.inr (Or.inr (Or.inr (Or.inr h1))))]; rfl
    rw [ilt_true h5, ieq_false h1, if_neg (by simp [h1, h5])]
    have hq := chalQ_ok s.1 p m
    rw [r6base.run (d := s.2.1) hs.2, r7chall.run (d := (s.1, p, m)) ⟨hs.1, hp, hm⟩]
    simp only [Bool.not_true, sel_false, obind_some, r7chall.add, r7chall.F, r6base.add, r6base.F]
    rw [r6add.run (d := (baseP s.2.1, t)) ⟨(pw_ok _ _).u, ht⟩, r6scale.run (d := (p, chalQ s.1 p m)) ⟨hp, hq.u⟩]
    simp only [obind_some, r6scale.add, r6scale.F, r6add.add, r6add.F]
    rw [r6add.run (d := (s.1, scaleP p (chalQ s.1 p m))) ⟨hs.1, (pw_ok _ _).u⟩]
    rfl
  · rw [ilt_false h5, if_pos (Or.inr (Or.inr (Or.inr (Or.inl h5))))]; rfl

theorem r7holds.inj : ∀ d d', r7holds.st d = r7holds.st d' → d = d' := fun (p, m, t, sv) (p', m', t', sv') hEq => by
  have e0 : p = p' := d_inj (t := (.int .u64)) (congrArg (fun s : List AVal × List Ent => (s.1.getD 0 .undef)) hEq)
  have e1 : m = m' := d_inj (t := (.arr 32 (.int .u8))) (congrArg (fun s : List AVal × List Ent => (s.1.getD 1 .undef)) hEq)
  have e2 : t = t' := d_inj (t := (.int .u64)) (congrArg (fun s : List AVal × List Ent => (s.1.getD 2 .undef)) hEq)
  have e3 : sv = sv' := d_inj (t := (.pair (.int .u64) (.pair (.int .u64) .unit))) (congrArg (fun s : List AVal × List Ent => (s.1.getD 3 .undef)) hEq)
  rw [e0, e1, e2, e3]
noncomputable def r7holds.E : Entry := Entry.of [some (.int .u64), some (.arr 32 (.int .u8)), some (.int .u64), some (.pair (.int .u64) (.pair (.int .u64) .unit))] r7holds.st r7holds.Pre (fun d => r7holds.add d (r7holds.F d)) r7holds.out
noncomputable def r7holds.call : r7holds.D → Option r7holds.X := fun d => r7holds.E.run (r7holds.st d).1 (r7holds.st d).2
theorem r7holds.run {d : r7holds.D} (h : r7holds.Pre d) : r7holds.call d = some (r7holds.add d (r7holds.F d)) := Entry.of_run r7holds.inj h
theorem r7holds.does : Does Try.prog 59 r7holds.E := Does.of (by kernel_rfl) (show Sound _ r7holds.G from Sound.cons r6right.does (Sound.cons r5right.does (Sound.cons r6base.does (Sound.cons r6add.does (Sound.cons r7chall.does (Sound.cons r6scale.does (Sound.nil _))))))) (by kernel_rfl) (by kernel_rfl) (by kernel_rfl) (LOk.fn 0 (by kernel_rfl) trivial) r7holds.ok

/-! ### corsned/corsnedref07.Verify -/
abbrev r7verify.D := Int × (List Int) × (Int × (Int × Unit))
def r7verify.st : r7verify.D → List AVal × List Ent := fun (p, m, sv) => ([.d (.int .u64) p, .d (.arr 32 (.int .u8)) m, .d (.pair (.int .u64) (.pair (.int .u64) .unit)) sv], [])
abbrev r7verify.Y := Bool
abbrev r7verify.X := Bool
def r7verify.out : r7verify.X → GRes := fun x => ⟨.d .bool x, [], []⟩
def r7verify.add : r7verify.D → r7verify.Y → r7verify.X := fun (p, m, sv) y => y


def r7verify.Pre : r7verify.D → Prop := fun (p, m, s) => U64 p ∧ Sm m ∧ SgU s
def r7verify.F : r7verify.D → r7verify.Y := fun (p, m, s) => checks p m 1 s

noncomputable def r7verify.G : Gam := gcons 59 anyArgs r7holds.E (gnil)
noncomputable def r7verify.an : Ann := {
  objs := [],
  loops := fun r => { keep := [], sites := [], frz := [], data := [], owns := [] },
  outs := fun r b => { keep := [], sites := [], frz := [], data := [], owns := [] },
  sums := fun r => none,
  owns := [],
  trim := [],
  res := [] }
theorem r7verify.eq {R : Type} (p : Int) (m : (List Int)) (sv : (Int × (Int × Unit))) (k : GRes → Option R) : arun Try.prog r7verify.G r7verify.an 0 Try.f35 (r7verify.st (p, m, sv)).1 (r7verify.st (p, m, sv)).2 k =
  obind (r7holds.call (p, m, (1 : Int), sv)) fun x1 =>
  k (r7verify.out x1) := by kernel_rfl


theorem r7verify.ok : ∀ d, r7verify.Pre d → arun Try.prog r7verify.G r7verify.an 0 Try.f35 (r7verify.st d).1 (r7verify.st d).2 some = some (r7verify.out (r7verify.add d (r7verify.F d))) := by
  rintro ⟨p, m, s⟩ ⟨hp, hm, hs⟩
  rw [r7verify.eq, r7holds.run (d := (p, m, 1, s)) ⟨hp, hm, ⟨by omega, by omega⟩, hs⟩]
  simp only [obind_some, r7holds.add, r7holds.F, holds_checks]
  rfl

theorem r7verify.inj : ∀ d d', r7verify.st d = r7verify.st d' → d = d' := fun (p, m, sv) (p', m', sv') hEq => by
  have e0 : p = p' := d_inj (t := (.int .u64)) (congrArg (fun s : List AVal × List Ent => (s.1.getD 0 .undef)) hEq)
  have e1 : m = m' := d_inj (t := (.arr 32 (.int .u8))) (congrArg (fun s : List AVal × List Ent => (s.1.getD 1 .undef)) hEq)
  have e2 : sv = sv' := d_inj (t := (.pair (.int .u64) (.pair (.int .u64) .unit))) (congrArg (fun s : List AVal × List Ent => (s.1.getD 2 .undef)) hEq)
  rw [e0, e1, e2]
noncomputable def r7verify.E : Entry := Entry.of [some (.int .u64), some (.arr 32 (.int .u8)), some (.pair (.int .u64) (.pair (.int .u64) .unit))] r7verify.st r7verify.Pre (fun d => r7verify.add d (r7verify.F d)) r7verify.out
noncomputable def r7verify.call : r7verify.D → Option r7verify.X := fun d => r7verify.E.run (r7verify.st d).1 (r7verify.st d).2
theorem r7verify.run {d : r7verify.D} (h : r7verify.Pre d) : r7verify.call d = some (r7verify.add d (r7verify.F d)) := Entry.of_run r7verify.inj h
theorem r7verify.does : Does Try.prog 35 r7verify.E := Does.of (by kernel_rfl) (show Sound _ r7verify.G from Sound.cons r7holds.does (Sound.nil _)) (by kernel_rfl) (by kernel_rfl) (by kernel_rfl) (LOk.fn 0 (by kernel_rfl) trivial) r7verify.ok

end Go.Ab
