/-
  Made by a program of mine (wip/gen), and by hand.
-/
import Derived.Test.YtglpcfdjdabdnaaPo3
namespace Go.Ab
open Go.Proofs
set_option maxRecDepth 100000
set_option linter.unusedVariables false
set_option linter.unusedSimpArgs false


theorem be8_eq64 (n : Int) : [icv .u8 (ishr .u64 n 56), icv .u8 (ishr .u64 n 48), icv .u8 (ishr .u64 n 40), icv .u8 (ishr .u64 n 32), icv .u8 (ishr .u64 n 24), icv .u8 (ishr .u64 n 16), icv .u8 (ishr .u64 n 8), icv .u8 (ishr .u64 n 0)] = be8 n := be8_eq n
theorem cut_len {α : Type} {l : List α} {n : Nat} (h : l.length = n) : cut l 0 n = l := by subst h; simp [cut]
theorem tag_pre3 {n : ByteArray} {a b c : List Int} (hn : n.size ≤ 100) (ha : a.length ≤ 1000000) (hb : b.length ≤ 1000000) (hc : c.length ≤ 1000000) : htag.Pre (n, [a, b, c]) := by
  show (tagb _ [a, b, c]).length ≤ _
  rw [tagb]
  simp only [tagp, List.flatMap_cons, List.flatMap_nil, List.length_append, be8_length, bytesOfStr_length, List.length_nil]
  omega
theorem tag_pre2 {n : ByteArray} {a b : List Int} (hn : n.size ≤ 100) (ha : a.length ≤ 1000000) (hb : b.length ≤ 1000000) : htag.Pre (n, [a, b]) := by
  show (tagb _ [a, b]).length ≤ _
  rw [tagb]
  simp only [tagp, List.flatMap_cons, List.flatMap_nil, List.length_append, be8_length, bytesOfStr_length, List.length_nil]
  omega
theorem tag_pre1 {n : ByteArray} {a : List Int} (hn : n.size ≤ 100) (ha : a.length ≤ 1000000) : htag.Pre (n, [a]) := by
  show (tagb _ [a]).length ≤ _
  rw [tagb]
  simp only [tagp, List.flatMap_cons, List.flatMap_nil, List.length_append, be8_length, bytesOfStr_length, List.length_nil]
  omega
/-- A sum. -/
def Sm (m : List Int) : Prop := m.length = 32 ∧ Bytes m
theorem sm_sha (b : List Int) : Sm (sha b) := ⟨sha_length b, bytes_sha b⟩
theorem sm_tag (n : List Int) (ps : List (List Int)) : Sm (tag n ps) := sm_sha _
def tagN (n : ByteArray) (ps : List (List Int)) : List Int := tag (bytesOfStr n) ps
def nSig : ByteArray := ⟨#[115, 105, 103]⟩
def nNonce : ByteArray := ⟨#[110, 111, 110, 99, 101]⟩
def chalQ (r p : Int) (m : List Int) : Int := fromQ (tagN nSig [be8 r, be8 p, m])
theorem chalQ_ok (r p : Int) (m : List Int) : Qn (chalQ r p m) := by
  have := fromQ_ok (tagN nSig [be8 r, be8 p, m])
  exact ⟨by unfold chalQ; omega, by unfold chalQ; omega⟩
/-- A signature as two numbers. -/
abbrev Sg := Int × (Int × Unit)
def SgU (s : Sg) : Prop := U64 s.1 ∧ U64 s.2.1
def checks (p : Int) (m : List Int) (t : Int) (s : Sg) : Bool :=
  if p = 1 ∨ isP p = false ∨ isP t = false ∨ isP s.1 = false ∨ ¬ s.2.1 < 2305843009213688669 then false
  else decide (baseP s.2.1 = sumP [s.1, scaleP p (chalQ s.1 p m), negP t])
def answerQ (k nonce : Int) (m : List Int) (t : Int) : Sg :=
  (sumP [baseP nonce, t], addQ nonce (mulQ (chalQ (sumP [baseP nonce, t]) (baseP k) m) k), ())
def nonceQ (k : Int) (m : List Int) : Int := fromQ (tagN nNonce [be8 k, m])
def signQ (k : Int) (m : List Int) : Sg := if k < 2305843009213688669 ∧ k ≠ 0 then answerQ k (nonceQ k m) m 1 else (0, 0, ())

/-! ### corsned/sign.eight -/
abbrev eight8.D := Int
def eight8.st : eight8.D → List AVal × List Ent := fun n => ([.d (.int .u64) n], [])
abbrev eight8.Y := (List Int)
abbrev eight8.X := (List Int)
def eight8.out : eight8.X → GRes := fun x => ⟨.d (.slice (.int .u8)) x, [], []⟩
def eight8.add : eight8.D → eight8.Y → eight8.X := fun n y => y


def eight8.Pre : eight8.D → Prop := fun _ => True
def eight8.F : eight8.D → eight8.Y := fun n => be8 n

noncomputable def eight8.G : Gam := gnil
noncomputable def eight8.an : Ann := {
  objs := [],
  loops := fun r => bif Nat.beq r 3 then { keep := [0, 3, 7, 8], sites := [5], frz := [], data := [], owns := [] } else { keep := [], sites := [], frz := [], data := [], owns := [] },
  outs := fun r b => bif Nat.beq r 3 then (bif b then { keep := [2], sites := [5], frz := [], data := [], owns := [] } else { keep := [3], sites := [5], frz := [], data := [], owns := [] }) else { keep := [], sites := [], frz := [], data := [], owns := [] },
  sums := fun r => none,
  owns := [],
  trim := [],
  res := [some (.slice (.int .u8))] }
theorem eight8.eq {R : Type} (n : Int) (k : GRes → Option R) : arun Try.prog eight8.G eight8.an 12 Try.f64 (eight8.st n).1 (eight8.st n).2 k =
  k (eight8.out [(icv .u8 (ishr .u64 n (56 : Int))), (icv .u8 (ishr .u64 n (48 : Int))), (icv .u8 (ishr .u64 n (40 : Int))), (icv .u8 (ishr .u64 n (32 : Int))), (icv .u8 (ishr .u64 n (24 : Int))), (icv .u8 (ishr .u64 n (16 : Int))), (icv .u8 (ishr .u64 n (8 : Int))), (icv .u8 (ishr .u64 n (0 : Int)))]) := by kernel_rfl


theorem eight8.ok : ∀ d, eight8.Pre d → arun Try.prog eight8.G eight8.an 12 Try.f64 (eight8.st d).1 (eight8.st d).2 some = some (eight8.out (eight8.add d (eight8.F d))) := by
  intro n _
  rw [eight8.eq, be8_eq64]
  rfl

theorem eight8.inj : ∀ d d', eight8.st d = eight8.st d' → d = d' := fun n n' hEq => by
  have e0 : n = n' := d_inj (t := (.int .u64)) (congrArg (fun s : List AVal × List Ent => (s.1.getD 0 .undef)) hEq)
  rw [e0]
noncomputable def eight8.E : Entry := Entry.of [some (.int .u64)] eight8.st eight8.Pre (fun d => eight8.add d (eight8.F d)) eight8.out
noncomputable def eight8.call : eight8.D → Option eight8.X := fun d => eight8.E.run (eight8.st d).1 (eight8.st d).2
theorem eight8.run {d : eight8.D} (h : eight8.Pre d) : eight8.call d = some (eight8.add d (eight8.F d)) := Entry.of_run eight8.inj h
theorem eight8.does : Does Try.prog 64 eight8.E := Does.of (by kernel_rfl) (show Sound _ eight8.G from Sound.nil _) (by kernel_rfl) (by kernel_rfl) (by kernel_rfl) (LOk.fn 1 (by kernel_rfl) (And.intro (LDo.none (by kernel_rfl)) trivial)) eight8.ok

/-! ### corsned/sign.challenge -/
abbrev chall.D := Int × Int × (List Int)
def chall.st : chall.D → List AVal × List Ent := fun (r, p, m) => ([.d (.int .u64) r, .d (.int .u64) p, .d (.arr 32 (.int .u8)) m], [])
abbrev chall.Y := Int
abbrev chall.X := Int
def chall.out : chall.X → GRes := fun x => ⟨.d (.int .u64) x, [], []⟩
def chall.add : chall.D → chall.Y → chall.X := fun (r, p, m) y => y


def chall.Pre : chall.D → Prop := fun (r, p, m) => Sm m
def chall.F : chall.D → chall.Y := fun (r, p, m) => chalQ r p m

noncomputable def chall.G : Gam := gcons 64 anyArgs eight8.E (gcons 28 anyArgs htag.E (gcons 63 anyArgs ffrom.E (gnil)))
noncomputable def chall.an : Ann := {
  objs := [],
  loops := fun r => { keep := [], sites := [], frz := [], data := [], owns := [] },
  outs := fun r b => { keep := [], sites := [], frz := [], data := [], owns := [] },
  sums := fun r => none,
  owns := [],
  trim := [],
  res := [] }
theorem chall.eq {R : Type} (r : Int) (p : Int) (m : (List Int)) (k : GRes → Option R) : arun Try.prog chall.G chall.an 0 Try.f74 (chall.st (r, p, m)).1 (chall.st (r, p, m)).2 k =
  obind (eight8.call r) fun x1 =>
  obind (eight8.call p) fun x2 =>
  obind (htag.call ((⟨#[115, 105, 103]⟩ : ByteArray), [x1, x2, (cut m 0 32)])) fun x3 =>
  obind (ffrom.call x3) fun x4 =>
  k (chall.out x4) := by kernel_rfl


theorem chall.ok : ∀ d, chall.Pre d → arun Try.prog chall.G chall.an 0 Try.f74 (chall.st d).1 (chall.st d).2 some = some (chall.out (chall.add d (chall.F d))) := by
  rintro ⟨r, p, m⟩ hm
  have hm : Sm m := hm
  rw [chall.eq, eight8.run (d := r) trivial, eight8.run (d := p) trivial]
  simp only [obind_some, eight8.add, eight8.F]
  rw [cut_len hm.1, htag.run (tag_pre3 (by decide) (by rw [be8_length]; omega) (by rw [be8_length]; omega) (by rw [hm.1]; omega))]
  simp only [obind_some, htag.add, htag.F]
  rw [ffrom.run (d := tag (bytesOfStr (⟨#[115, 105, 103]⟩ : ByteArray)) [be8 r, be8 p, m]) (sm_tag _ _)]
  rfl

theorem chall.inj : ∀ d d', chall.st d = chall.st d' → d = d' := fun (r, p, m) (r', p', m') hEq => by
  have e0 : r = r' := d_inj (t := (.int .u64)) (congrArg (fun s : List AVal × List Ent => (s.1.getD 0 .undef)) hEq)
  have e1 : p = p' := d_inj (t := (.int .u64)) (congrArg (fun s : List AVal × List Ent => (s.1.getD 1 .undef)) hEq)
  have e2 : m = m' := d_inj (t := (.arr 32 (.int .u8))) (congrArg (fun s : List AVal × List Ent => (s.1.getD 2 .undef)) hEq)
  rw [e0, e1, e2]
noncomputable def chall.E : Entry := Entry.of [some (.int .u64), some (.int .u64), some (.arr 32 (.int .u8))] chall.st chall.Pre (fun d => chall.add d (chall.F d)) chall.out
noncomputable def chall.call : chall.D → Option chall.X := fun d => chall.E.run (chall.st d).1 (chall.st d).2
theorem chall.run {d : chall.D} (h : chall.Pre d) : chall.call d = some (chall.add d (chall.F d)) := Entry.of_run chall.inj h
theorem chall.does : Does Try.prog 74 chall.E := Does.of (by kernel_rfl) (show Sound _ chall.G from Sound.cons eight8.does (Sound.cons htag.does (Sound.cons ffrom.does (Sound.nil _)))) (by kernel_rfl) (by kernel_rfl) (by kernel_rfl) (LOk.fn 0 (by kernel_rfl) trivial) chall.ok

/-! ### corsned/sign.Checks -/
abbrev schecks.D := Int × (List Int) × Int × (Int × (Int × Unit))
def schecks.st : schecks.D → List AVal × List Ent := fun (p, m, t, pre) => ([.d (.int .u64) p, .d (.arr 32 (.int .u8)) m, .d (.int .u64) t, .d (.pair (.int .u64) (.pair (.int .u64) .unit)) pre], [])
abbrev schecks.Y := Bool
abbrev schecks.X := Bool
def schecks.out : schecks.X → GRes := fun x => ⟨.d .bool x, [], []⟩
def schecks.add : schecks.D → schecks.Y → schecks.X := fun (p, m, t, pre) y => y


def schecks.Pre : schecks.D → Prop := fun (p, m, t, s) => U64 p ∧ Sm m ∧ U64 t ∧ SgU s
def schecks.F : schecks.D → schecks.Y := fun (p, m, t, s) => checks p m t s

noncomputable def schecks.G : Gam := gcons 15 anyArgs pright.E (gcons 72 anyArgs fright.E (gcons 74 anyArgs chall.E (gcons 36 anyArgs pscale.E (gcons 75 anyArgs pneg.E (gcons 73 anyArgs pall.E (gcons 12 anyArgs pbase.E (gnil)))))))
noncomputable def schecks.an : Ann := {
  objs := [],
  loops := fun r => { keep := [], sites := [], frz := [], data := [], owns := [] },
  outs := fun r b => { keep := [], sites := [], frz := [], data := [], owns := [] },
  sums := fun r => none,
  owns := [],
  trim := [],
  res := [] }
theorem schecks.eq {R : Type} (p : Int) (m : (List Int)) (t : Int) (pre : (Int × (Int × Unit))) (k : GRes → Option R) : arun Try.prog schecks.G schecks.an 0 Try.f56 (schecks.st (p, m, t, pre)).1 (schecks.st (p, m, t, pre)).2 k =
  sel ((ieq p (1 : Int))) (
   k (schecks.out false)) (
   obind (pright.call p) fun x1 =>
   sel ((!x1)) (
    k (schecks.out false)) (
    obind (pright.call t) fun x2 =>
    sel ((!x2)) (
     k (schecks.out false)) (
     obind (pright.call pre.1) fun x3 =>
     sel ((!x3)) (
      k (schecks.out false)) (
      obind (fright.call pre.2.1) fun x4 =>
      sel ((!x4)) (
       k (schecks.out false)) (
       obind (chall.call (pre.1, p, m)) fun x5 =>
       obind (pscale.call (p, x5)) fun x6 =>
       obind (pneg.call t) fun x7 =>
       obind (pall.call [pre.1, x6, x7]) fun x8 =>
       obind (pbase.call pre.2.1) fun x9 =>
       k (schecks.out (ieq x9 x8))))))) := by kernel_rfl


theorem schecks.ok : ∀ d, schecks.Pre d → arun Try.prog schecks.G schecks.an 0 Try.f56 (schecks.st d).1 (schecks.st d).2 some = some (schecks.out (schecks.add d (schecks.F d))) := by
  rintro ⟨p, m, t, s⟩ ⟨hp, hm, ht, hs⟩
  have hp : U64 p := hp
  have ht : U64 t := ht
  have hm : Sm m := hm
  have hs : SgU s := hs
  rw [schecks.eq, pright.run (d := p) hp, pright.run (d := t) ht, pright.run (d := s.1) hs.1, fright.run (d := s.2.1) trivial]
  simp only [obind_some, pright.add, pright.F, fright.add, fright.F, schecks.add, schecks.F, checks]
  by_cases h1 : p = 1
  · rw [ieq_true h1, sel_true, if_pos (Or.inl h1)]
  rw [ieq_false h1, sel_false]
  cases h2 : isP p
  · rw [if_pos (Or.inr (Or.inl rfl))]; rfl
  cases h3 : isP t
  · rw [if_pos (Or.inr (Or.inr (Or.inl rfl)))]; rfl
  cases h4 : isP s.1
  · rw [if_pos (Or.inr (Or.inr (Or.inr (Or.inl rfl))))]; rfl
  by_cases h5 : s.2.1 < 2305843009213688669
  · rw [ilt_true h5, if_neg (by simp [h1, h5])]
    have hq := chalQ_ok s.1 p m
    rw [chall.run (d := (s.1, p, m)) hm]
    simp only [Bool.not_true, sel_false, obind_some, chall.add, chall.F]
    rw [pscale.run (d := (p, chalQ s.1 p m)) ⟨hp, hq.u⟩, pneg.run (d := t) ht]
    simp only [obind_some, pscale.add, pscale.F, pneg.add, pneg.F]
    have q : pall.Pre [s.1, scaleP p (chalQ s.1 p m), negP t] := ⟨by
      intro x hx
      simp only [List.mem_cons, List.not_mem_nil, or_false] at hx
      rcases hx with rfl | rfl | rfl
      · exact hs.1
      · exact (pw_ok _ _).u
      · exact (pw_ok _ _).u, by simp only [List.length_cons, List.length_nil]; omega⟩
    rw [pall.run q, pbase.run (d := s.2.1) hs.2]
    rfl
  · rw [ilt_false h5, if_pos (Or.inr (Or.inr (Or.inr (Or.inr h5))))]; rfl

theorem schecks.inj : ∀ d d', schecks.st d = schecks.st d' → d = d' := fun (p, m, t, pre) (p', m', t', pre') hEq => by
  have e0 : p = p' := d_inj (t := (.int .u64)) (congrArg (fun s : List AVal × List Ent => (s.1.getD 0 .undef)) hEq)
  have e1 : m = m' := d_inj (t := (.arr 32 (.int .u8))) (congrArg (fun s : List AVal × List Ent => (s.1.getD 1 .undef)) hEq)
  have e2 : t = t' := d_inj (t := (.int .u64)) (congrArg (fun s : List AVal × List Ent => (s.1.getD 2 .undef)) hEq)
  have e3 : pre = pre' := d_inj (t := (.pair (.int .u64) (.pair (.int .u64) .unit))) (congrArg (fun s : List AVal × List Ent => (s.1.getD 3 .undef)) hEq)
  rw [e0, e1, e2, e3]
noncomputable def schecks.E : Entry := Entry.of [some (.int .u64), some (.arr 32 (.int .u8)), some (.int .u64), some (.pair (.int .u64) (.pair (.int .u64) .unit))] schecks.st schecks.Pre (fun d => schecks.add d (schecks.F d)) schecks.out
noncomputable def schecks.call : schecks.D → Option schecks.X := fun d => schecks.E.run (schecks.st d).1 (schecks.st d).2
theorem schecks.run {d : schecks.D} (h : schecks.Pre d) : schecks.call d = some (schecks.add d (schecks.F d)) := Entry.of_run schecks.inj h
theorem schecks.does : Does Try.prog 56 schecks.E := Does.of (by kernel_rfl) (show Sound _ schecks.G from Sound.cons pright.does (Sound.cons fright.does (Sound.cons chall.does (Sound.cons pscale.does (Sound.cons pneg.does (Sound.cons pall.does (Sound.cons pbase.does (Sound.nil _)))))))) (by kernel_rfl) (by kernel_rfl) (by kernel_rfl) (LOk.fn 0 (by kernel_rfl) trivial) schecks.ok

/-! ### corsned/sign.Verify -/
abbrev sverify.D := Int × (List Int) × (Int × (Int × Unit))
def sverify.st : sverify.D → List AVal × List Ent := fun (p, m, sv) => ([.d (.int .u64) p, .d (.arr 32 (.int .u8)) m, .d (.pair (.int .u64) (.pair (.int .u64) .unit)) sv], [])
abbrev sverify.Y := Bool
abbrev sverify.X := Bool
def sverify.out : sverify.X → GRes := fun x => ⟨.d .bool x, [], []⟩
def sverify.add : sverify.D → sverify.Y → sverify.X := fun (p, m, sv) y => y


def sverify.Pre : sverify.D → Prop := fun (p, m, s) => U64 p ∧ Sm m ∧ SgU s
def sverify.F : sverify.D → sverify.Y := fun (p, m, s) => checks p m 1 s

noncomputable def sverify.G : Gam := gcons 56 anyArgs schecks.E (gnil)
noncomputable def sverify.an : Ann := {
  objs := [],
  loops := fun r => { keep := [], sites := [], frz := [], data := [], owns := [] },
  outs := fun r b => { keep := [], sites := [], frz := [], data := [], owns := [] },
  sums := fun r => none,
  owns := [],
  trim := [],
  res := [] }
theorem sverify.eq {R : Type} (p : Int) (m : (List Int)) (sv : (Int × (Int × Unit))) (k : GRes → Option R) : arun Try.prog sverify.G sverify.an 0 Try.f32 (sverify.st (p, m, sv)).1 (sverify.st (p, m, sv)).2 k =
  obind (schecks.call (p, m, (1 : Int), sv)) fun x1 =>
  k (sverify.out x1) := by kernel_rfl


theorem sverify.ok : ∀ d, sverify.Pre d → arun Try.prog sverify.G sverify.an 0 Try.f32 (sverify.st d).1 (sverify.st d).2 some = some (sverify.out (sverify.add d (sverify.F d))) := by
  rintro ⟨p, m, s⟩ ⟨hp, hm, hs⟩
  rw [sverify.eq, schecks.run (d := (p, m, 1, s)) ⟨hp, hm, ⟨by omega, by omega⟩, hs⟩]
  rfl

theorem sverify.inj : ∀ d d', sverify.st d = sverify.st d' → d = d' := fun (p, m, sv) (p', m', sv') hEq => by
  have e0 : p = p' := d_inj (t := (.int .u64)) (congrArg (fun s : List AVal × List Ent => (s.1.getD 0 .undef)) hEq)
  have e1 : m = m' := d_inj (t := (.arr 32 (.int .u8))) (congrArg (fun s : List AVal × List Ent => (s.1.getD 1 .undef)) hEq)
  have e2 : sv = sv' := d_inj (t := (.pair (.int .u64) (.pair (.int .u64) .unit))) (congrArg (fun s : List AVal × List Ent => (s.1.getD 2 .undef)) hEq)
  rw [e0, e1, e2]
noncomputable def sverify.E : Entry := Entry.of [some (.int .u64), some (.arr 32 (.int .u8)), some (.pair (.int .u64) (.pair (.int .u64) .unit))] sverify.st sverify.Pre (fun d => sverify.add d (sverify.F d)) sverify.out
noncomputable def sverify.call : sverify.D → Option sverify.X := fun d => sverify.E.run (sverify.st d).1 (sverify.st d).2
theorem sverify.run {d : sverify.D} (h : sverify.Pre d) : sverify.call d = some (sverify.add d (sverify.F d)) := Entry.of_run sverify.inj h
theorem sverify.does : Does Try.prog 32 sverify.E := Does.of (by kernel_rfl) (show Sound _ sverify.G from Sound.cons schecks.does (Sound.nil _)) (by kernel_rfl) (by kernel_rfl) (by kernel_rfl) (LOk.fn 0 (by kernel_rfl) trivial) sverify.ok

/-! ### corsned/sign.key -/
abbrev skey.D := Int
def skey.st : skey.D → List AVal × List Ent := fun kv => ([.d (.int .u64) kv], [])
abbrev skey.Y := Bool
abbrev skey.X := Bool
def skey.out : skey.X → GRes := fun x => ⟨.d .bool x, [], []⟩
def skey.add : skey.D → skey.Y → skey.X := fun kv y => y


def skey.Pre : skey.D → Prop := fun _ => True
def skey.F : skey.D → skey.Y := fun k => decide (k < 2305843009213688669 ∧ k ≠ 0)

noncomputable def skey.G : Gam := gcons 72 anyArgs fright.E (gnil)
noncomputable def skey.an : Ann := {
  objs := [],
  loops := fun r => { keep := [], sites := [], frz := [], data := [], owns := [] },
  outs := fun r b => { keep := [], sites := [], frz := [], data := [], owns := [] },
  sums := fun r => none,
  owns := [],
  trim := [],
  res := [] }
theorem skey.eq {R : Type} (kv : Int) (k : GRes → Option R) : arun Try.prog skey.G skey.an 0 Try.f61 (skey.st kv).1 (skey.st kv).2 k =
  obind (fright.call kv) fun x1 =>
  sel (x1) (
   k (skey.out (ine kv (0 : Int)))) (
   k (skey.out false)) := by kernel_rfl


theorem skey.ok : ∀ d, skey.Pre d → arun Try.prog skey.G skey.an 0 Try.f61 (skey.st d).1 (skey.st d).2 some = some (skey.out (skey.add d (skey.F d))) := by
  intro k _
  rw [skey.eq, fright.run (d := k) trivial]
  simp only [obind_some, fright.add, fright.F, skey.add, skey.F]
  by_cases h : k < 2305843009213688669
  · rw [ilt_true h, sel_true]
    by_cases h0 : k = 0
    · rw [ine_false h0, dec_false (fun x => x.2 h0)]
    · rw [ine_true h0, dec_true ⟨h, h0⟩]
  · rw [ilt_false h, sel_false, dec_false (fun x => h x.1)]

theorem skey.inj : ∀ d d', skey.st d = skey.st d' → d = d' := fun kv kv' hEq => by
  have e0 : kv = kv' := d_inj (t := (.int .u64)) (congrArg (fun s : List AVal × List Ent => (s.1.getD 0 .undef)) hEq)
  rw [e0]
noncomputable def skey.E : Entry := Entry.of [some (.int .u64)] skey.st skey.Pre (fun d => skey.add d (skey.F d)) skey.out
noncomputable def skey.call : skey.D → Option skey.X := fun d => skey.E.run (skey.st d).1 (skey.st d).2
theorem skey.run {d : skey.D} (h : skey.Pre d) : skey.call d = some (skey.add d (skey.F d)) := Entry.of_run skey.inj h
theorem skey.does : Does Try.prog 61 skey.E := Does.of (by kernel_rfl) (show Sound _ skey.G from Sound.cons fright.does (Sound.nil _)) (by kernel_rfl) (by kernel_rfl) (by kernel_rfl) (LOk.fn 0 (by kernel_rfl) trivial) skey.ok

/-! ### corsned/sign.answer -/
abbrev sanswer.D := Int × Int × (List Int) × Int
def sanswer.st : sanswer.D → List AVal × List Ent := fun (kv, nonce, m, t) => ([.d (.int .u64) kv, .d (.int .u64) nonce, .d (.arr 32 (.int .u8)) m, .d (.int .u64) t], [])
abbrev sanswer.Y := (Int × (Int × Unit))
abbrev sanswer.X := (Int × (Int × Unit))
def sanswer.out : sanswer.X → GRes := fun x => ⟨.d (.pair (.int .u64) (.pair (.int .u64) .unit)) x, [], []⟩
def sanswer.add : sanswer.D → sanswer.Y → sanswer.X := fun (kv, nonce, m, t) y => y


def sanswer.Pre : sanswer.D → Prop := fun (k, n, m, t) => U64 k ∧ U64 n ∧ Sm m ∧ U64 t
def sanswer.F : sanswer.D → sanswer.Y := fun (k, n, m, t) => answerQ k n m t

noncomputable def sanswer.G : Gam := gcons 12 anyArgs pbase.E (gcons 82 anyArgs padd.E (gcons 74 anyArgs chall.E (gcons 84 anyArgs fmul.E (gcons 83 anyArgs fadd.E (gnil)))))
noncomputable def sanswer.an : Ann := {
  objs := [],
  loops := fun r => { keep := [], sites := [], frz := [], data := [], owns := [] },
  outs := fun r b => { keep := [], sites := [], frz := [], data := [], owns := [] },
  sums := fun r => none,
  owns := [],
  trim := [],
  res := [] }
theorem sanswer.eq {R : Type} (kv : Int) (nonce : Int) (m : (List Int)) (t : Int) (k : GRes → Option R) : arun Try.prog sanswer.G sanswer.an 0 Try.f62 (sanswer.st (kv, nonce, m, t)).1 (sanswer.st (kv, nonce, m, t)).2 k =
  obind (pbase.call nonce) fun x1 =>
  obind (padd.call (x1, t)) fun x2 =>
  obind (pbase.call kv) fun x3 =>
  obind (chall.call (x2, x3, m)) fun x4 =>
  obind (fmul.call (x4, kv)) fun x5 =>
  obind (fadd.call (nonce, x5)) fun x6 =>
  k (sanswer.out (x2, (x6, ()))) := by kernel_rfl


theorem sanswer.ok : ∀ d, sanswer.Pre d → arun Try.prog sanswer.G sanswer.an 0 Try.f62 (sanswer.st d).1 (sanswer.st d).2 some = some (sanswer.out (sanswer.add d (sanswer.F d))) := by
  rintro ⟨k, n, m, t⟩ ⟨hk, hn, hm, ht⟩
  have hk : U64 k := hk
  have hn : U64 n := hn
  have hm : Sm m := hm
  have ht : U64 t := ht
  rw [sanswer.eq, pbase.run (d := n) hn]
  simp only [obind_some, pbase.add, pbase.F]
  rw [padd.run (d := (baseP n, t)) ⟨(pw_ok _ _).u, ht⟩, pbase.run (d := k) hk]
  simp only [obind_some, pbase.add, pbase.F, padd.add, padd.F]
  rw [chall.run (d := (sumP [baseP n, t], baseP k, m)) hm]
  simp only [obind_some, chall.add, chall.F]
  rw [fmul.run (d := (chalQ (sumP [baseP n, t]) (baseP k) m, k)) ⟨(chalQ_ok _ _ _).u, hk⟩]
  simp only [obind_some, fmul.add, fmul.F]
  rw [fadd.run (d := (n, mulQ (chalQ (sumP [baseP n, t]) (baseP k) m) k)) ⟨hn, (mulQ_ok _ _).u⟩]
  rfl

theorem sanswer.inj : ∀ d d', sanswer.st d = sanswer.st d' → d = d' := fun (kv, nonce, m, t) (kv', nonce', m', t') hEq => by
  have e0 : kv = kv' := d_inj (t := (.int .u64)) (congrArg (fun s : List AVal × List Ent => (s.1.getD 0 .undef)) hEq)
  have e1 : nonce = nonce' := d_inj (t := (.int .u64)) (congrArg (fun s : List AVal × List Ent => (s.1.getD 1 .undef)) hEq)
  have e2 : m = m' := d_inj (t := (.arr 32 (.int .u8))) (congrArg (fun s : List AVal × List Ent => (s.1.getD 2 .undef)) hEq)
  have e3 : t = t' := d_inj (t := (.int .u64)) (congrArg (fun s : List AVal × List Ent => (s.1.getD 3 .undef)) hEq)
  rw [e0, e1, e2, e3]
noncomputable def sanswer.E : Entry := Entry.of [some (.int .u64), some (.int .u64), some (.arr 32 (.int .u8)), some (.int .u64)] sanswer.st sanswer.Pre (fun d => sanswer.add d (sanswer.F d)) sanswer.out
noncomputable def sanswer.call : sanswer.D → Option sanswer.X := fun d => sanswer.E.run (sanswer.st d).1 (sanswer.st d).2
theorem sanswer.run {d : sanswer.D} (h : sanswer.Pre d) : sanswer.call d = some (sanswer.add d (sanswer.F d)) := Entry.of_run sanswer.inj h
theorem sanswer.does : Does Try.prog 62 sanswer.E := Does.of (by kernel_rfl) (show Sound _ sanswer.G from Sound.cons pbase.does (Sound.cons padd.does (Sound.cons chall.does (Sound.cons fmul.does (Sound.cons fadd.does (Sound.nil _)))))) (by kernel_rfl) (by kernel_rfl) (by kernel_rfl) (LOk.fn 0 (by kernel_rfl) trivial) sanswer.ok

/-! ### corsned/sign.Sign -/
abbrev ssign.D := Int × (List Int)
def ssign.st : ssign.D → List AVal × List Ent := fun (kv, m) => ([.d (.int .u64) kv, .d (.arr 32 (.int .u8)) m], [])
abbrev ssign.Y := (Int × (Int × Unit))
abbrev ssign.X := (Int × (Int × Unit))
def ssign.out : ssign.X → GRes := fun x => ⟨.d (.pair (.int .u64) (.pair (.int .u64) .unit)) x, [], []⟩
def ssign.add : ssign.D → ssign.Y → ssign.X := fun (kv, m) y => y


def ssign.Pre : ssign.D → Prop := fun (k, m) => U64 k ∧ Sm m
def ssign.F : ssign.D → ssign.Y := fun (k, m) => signQ k m

noncomputable def ssign.G : Gam := gcons 61 anyArgs skey.E (gcons 64 anyArgs eight8.E (gcons 28 anyArgs htag.E (gcons 63 anyArgs ffrom.E (gcons 62 anyArgs sanswer.E (gnil)))))
noncomputable def ssign.an : Ann := {
  objs := [],
  loops := fun r => { keep := [], sites := [], frz := [], data := [], owns := [] },
  outs := fun r b => { keep := [], sites := [], frz := [], data := [], owns := [] },
  sums := fun r => none,
  owns := [],
  trim := [],
  res := [] }
theorem ssign.eq {R : Type} (kv : Int) (m : (List Int)) (k : GRes → Option R) : arun Try.prog ssign.G ssign.an 0 Try.f37 (ssign.st (kv, m)).1 (ssign.st (kv, m)).2 k =
  obind (skey.call kv) fun x1 =>
  sel ((!x1)) (
   k (ssign.out ((0 : Int), ((0 : Int), ())))) (
   obind (eight8.call kv) fun x2 =>
   obind (htag.call ((⟨#[110, 111, 110, 99, 101]⟩ : ByteArray), [x2, (cut m 0 32)])) fun x3 =>
   obind (ffrom.call x3) fun x4 =>
   obind (sanswer.call (kv, x4, m, (1 : Int))) fun x5 =>
   k (ssign.out x5)) := by kernel_rfl


theorem ssign.ok : ∀ d, ssign.Pre d → arun Try.prog ssign.G ssign.an 0 Try.f37 (ssign.st d).1 (ssign.st d).2 some = some (ssign.out (ssign.add d (ssign.F d))) := by
  rintro ⟨k, m⟩ ⟨hk, hm⟩
  have hk : U64 k := hk
  have hm : Sm m := hm
  rw [ssign.eq, skey.run (d := k) trivial]
  simp only [obind_some, skey.add, skey.F, ssign.add, ssign.F, signQ]
  by_cases h : k < 2305843009213688669 ∧ k ≠ 0
  · rw [dec_true h, if_pos h, eight8.run (d := k) trivial, cut_len hm.1]
    simp only [Bool.not_true, sel_false, obind_some, eight8.add, eight8.F]
    rw [htag.run (tag_pre2 (by decide) (by rw [be8_length]; omega) (by rw [hm.1]; omega))]
    simp only [obind_some, htag.add, htag.F]
    rw [ffrom.run (d := tag (bytesOfStr (⟨#[110, 111, 110, 99, 101]⟩ : ByteArray)) [be8 k, m]) (sm_tag _ _)]
    simp only [obind_some, ffrom.add, ffrom.F]
    have q := fromQ_ok (tag (bytesOfStr (⟨#[110, 111, 110, 99, 101]⟩ : ByteArray)) [be8 k, m])
    rw [sanswer.run (d := (k, fromQ (tag (bytesOfStr (⟨#[110, 111, 110, 99, 101]⟩ : ByteArray)) [be8 k, m]), m, 1)) ⟨hk, ⟨by omega, by omega⟩, hm, by omega, by omega⟩]
    rfl
  · rw [dec_false h, if_neg h]; rfl

theorem ssign.inj : ∀ d d', ssign.st d = ssign.st d' → d = d' := fun (kv, m) (kv', m') hEq => by
  have e0 : kv = kv' := d_inj (t := (.int .u64)) (congrArg (fun s : List AVal × List Ent => (s.1.getD 0 .undef)) hEq)
  have e1 : m = m' := d_inj (t := (.arr 32 (.int .u8))) (congrArg (fun s : List AVal × List Ent => (s.1.getD 1 .undef)) hEq)
  rw [e0, e1]
noncomputable def ssign.E : Entry := Entry.of [some (.int .u64), some (.arr 32 (.int .u8))] ssign.st ssign.Pre (fun d => ssign.add d (ssign.F d)) ssign.out
noncomputable def ssign.call : ssign.D → Option ssign.X := fun d => ssign.E.run (ssign.st d).1 (ssign.st d).2
theorem ssign.run {d : ssign.D} (h : ssign.Pre d) : ssign.call d = some (ssign.add d (ssign.F d)) := Entry.of_run ssign.inj h
theorem ssign.does : Does Try.prog 37 ssign.E := Does.of (by kernel_rfl) (show Sound _ ssign.G from Sound.cons skey.does (Sound.cons eight8.does (Sound.cons htag.does (Sound.cons ffrom.does (Sound.cons sanswer.does (Sound.nil _)))))) (by kernel_rfl) (by kernel_rfl) (by kernel_rfl) (LOk.fn 0 (by kernel_rfl) trivial) ssign.ok

end Go.Ab
