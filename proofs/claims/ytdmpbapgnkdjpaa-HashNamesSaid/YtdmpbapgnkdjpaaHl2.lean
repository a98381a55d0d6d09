/-
  Made by a program of mine (wip/gen), and by hand.
-/
import Derived.Test.YtdmpbapgnkdjpaaHl1
import Derived.Test.YtdmpbapgnkdjpaaRs2
namespace Go.Ab
open Go.Proofs
set_option maxRecDepth 100000
set_option linter.unusedVariables false
set_option linter.unusedSimpArgs false

/-! ### corsned/corsnedlaw04.HashTells -/
abbrev htells.D := (List Int) × ByteArray × (List Int)
def htells.st : htells.D → List AVal × List Ent := fun (b, sv, h) => ([.d (.slice (.int .u8)) b, .d .str sv, .d (.arr 32 (.int .u8)) h], [])
abbrev htells.Y := Bool
abbrev htells.X := Bool
def htells.out : htells.X → GRes := fun x => ⟨.d .bool x, [], []⟩
def htells.add : htells.D → htells.Y → htells.X := fun (b, sv, h) y => y


def htells.Pre : htells.D → Prop := fun (b, s, h) => h.length = 32 ∧ Bytes h
def htells.F : htells.D → htells.Y := fun _ => true

noncomputable def htells.G : Gam := gcons 21 anyArgs small4.E (gcons 22 anyArgs hread.E (gcons 23 anyArgs rread.E (gcons 24 anyArgs hsum.E (gcons 25 anyArgs rsum.E (gcons 26 anyArgs hnum.E (gcons 27 anyArgs rnum.E (gcons 28 anyArgs hhex.E (gcons 29 anyArgs rhex.E (gnil)))))))))
noncomputable def htells.an : Ann := {
  objs := [],
  loops := fun r => { keep := [], sites := [], frz := [], data := [], owns := [] },
  outs := fun r b => { keep := [], sites := [], frz := [], data := [], owns := [] },
  sums := fun r => none,
  owns := [],
  trim := [],
  res := [] }
theorem htells.eq {R : Type} (b : (List Int)) (sv : ByteArray) (h : (List Int)) (k : GRes → Option R) : arun Try.prog htells.G htells.an 0 Try.f9 (htells.st (b, sv, h)).1 (htells.st (b, sv, h)).2 k =
  obind (small4.call ()) fun x1 =>
  sel ((igt (((List.length b) : Nat) : Int) (300 : Int))) (
   k (htells.out x1)) (
   sel ((igt (((ByteArray.size sv) : Nat) : Int) (100 : Int))) (
    k (htells.out x1)) (
    obind (hread.call sv) fun x2 =>
    obind (rread.call sv) fun x3 =>
    sel (x1) (
     obind (hsum.call b) fun x4 =>
     obind (rsum.call b) fun x5 =>
     sel ((Ty.beq (.arr 32 (.int .u8)) x4 x5)) (
      obind (hnum.call h) fun x6 =>
      obind (rnum.call h) fun x7 =>
      sel ((ieq x6 x7)) (
       obind (hhex.call h) fun x8 =>
       obind (rhex.call h) fun x9 =>
       sel ((seq x8 x9)) (
        sel ((Ty.beq (.arr 32 (.int .u8)) x2.1 x3.1)) (
         k (htells.out (Ty.beq .bool x2.2 x3.2))) (
         k (htells.out false))) (
        k (htells.out false))) (
       k (htells.out false))) (
      k (htells.out false))) (
     k (htells.out false)))) := by kernel_rfl


theorem htells.ok : ∀ d, htells.Pre d → arun Try.prog htells.G htells.an 0 Try.f9 (htells.st d).1 (htells.st d).2 some = some (htells.out (htells.add d (htells.F d))) := by
  rintro ⟨b, s, h⟩ ⟨hl, hb⟩
  have e1 : small4.call () = some true := small4.run (d := ()) trivial
  rw [htells.eq, e1]
  simp only [obind_some]
  by_cases h1 : 300 < b.length
  · rw [igt_true (by omega)]; rfl
  rw [igt_false (by omega), sel_false]
  by_cases h2 : 100 < s.size
  · rw [igt_true (by omega)]; rfl
  rw [igt_false (by omega), sel_false]
  have a1 : hread.call s = some (readB (bytesOfStr s)) := hread.run (d := s) trivial
  have a2 : rread.call s = some (readB (bytesOfStr s)) := rread.run (d := s) trivial
  have a3 : hsum.call b = some (sha b) := hsum.run (d := b) (show b.length ≤ _ by omega)
  have a4 : rsum.call b = some (sha b) := rsum.run (d := b) (show b.length ≤ _ by omega)
  have a5 : hnum.call h = some (num8 h) := hnum.run (d := h) hl
  have a6 : rnum.call h = some (num8 h) := rnum.run (d := h) hl
  have a7 : hhex.call h = some (strOfBytes (hexB h)) := hhex.run (d := h) ⟨hl, hb⟩
  have a8 : rhex.call h = some (strOfBytes (hexB h)) := rhex.run (d := h) ⟨hl, hb⟩
  rw [a1, a2, a3, a4, a5, a6, a7, a8]
  simp only [obind_some, sel_true, beq_ints, decide_true, seq_self, ieq_true, beq_bool]
  rfl

theorem htells.inj : ∀ d d', htells.st d = htells.st d' → d = d' := fun (b, sv, h) (b', sv', h') hEq => by
  have e0 : b = b' := d_inj (t := (.slice (.int .u8))) (congrArg (fun s : List AVal × List Ent => (s.1.getD 0 .undef)) hEq)
  have e1 : sv = sv' := d_inj (t := .str) (congrArg (fun s : List AVal × List Ent => (s.1.getD 1 .undef)) hEq)
  have e2 : h = h' := d_inj (t := (.arr 32 (.int .u8))) (congrArg (fun s : List AVal × List Ent => (s.1.getD 2 .undef)) hEq)
  rw [e0, e1, e2]
noncomputable def htells.E : Entry := Entry.of [some (.slice (.int .u8)), some .str, some (.arr 32 (.int .u8))] htells.st htells.Pre (fun d => htells.add d (htells.F d)) htells.out
noncomputable def htells.call : htells.D → Option htells.X := fun d => htells.E.run (htells.st d).1 (htells.st d).2
theorem htells.run {d : htells.D} (h : htells.Pre d) : htells.call d = some (htells.add d (htells.F d)) := Entry.of_run htells.inj h
theorem htells.does : Does Try.prog 9 htells.E := Does.of (by kernel_rfl) (show Sound _ htells.G from Sound.cons small4.does (Sound.cons hread.does (Sound.cons rread.does (Sound.cons hsum.does (Sound.cons rsum.does (Sound.cons hnum.does (Sound.cons rnum.does (Sound.cons hhex.does (Sound.cons rhex.does (Sound.nil _)))))))))) (by kernel_rfl) (by kernel_rfl) (by kernel_rfl) (LOk.fn 0 (by kernel_rfl) trivial) htells.ok

/-! ### corsned/corsnedlaw04.HashTags -/
abbrev htags.L0.D := ByteArray × (List (List Int)) × Bool × Int
def htags.L0.st : htags.L0.D → AS := fun (name_2, parts_2, head, i) => ⟨[.d .str name_2, .d (.slice (.slice (.int .u8))) parts_2, .undef, .undef, .undef, .d .bool head, .d (.int .i64) i, .undef, .undef, .undef, .undef, .undef, .undef, .undef, .undef, .undef, .undef, .undef, .undef, .undef, .undef, .undef, .undef, .undef, .undef, .undef, .undef, .undef, .undef, .undef, .undef, .undef, .undef, .undef, .undef, .undef, .undef, .undef, .undef, .undef], [], (List.replicate 40 [])⟩
abbrev htags.L0.Y0 := Unit
abbrev htags.L0.X0 := Bool
def htags.L0.ex0 : htags.L0.X0 → Exit × AS := fun x => (.ret, ⟨[.undef, .undef, .undef, .undef, .d .bool x, .undef, .undef, .undef, .undef, .undef, .undef, .undef, .undef, .undef, .undef, .undef, .undef, .undef, .undef, .undef, .undef, .undef, .undef, .undef, .undef, .undef, .undef, .undef, .undef, .undef, .undef, .undef, .undef, .undef, .undef, .undef, .undef, .undef, .undef, .undef], [], (List.replicate 40 [])⟩)
abbrev htags.L0.Y1 := Unit
abbrev htags.L0.X1 := ByteArray × (List (List Int)) × Bool
def htags.L0.ex1 : htags.L0.X1 → Exit × AS := fun x => (.exit 0, ⟨[.d .str x.1, .d (.slice (.slice (.int .u8))) x.2.1, .undef, .undef, .undef, .d .bool x.2.2, .undef, .undef, .undef, .undef, .undef, .undef, .undef, .undef, .undef, .undef, .undef, .undef, .undef, .undef, .undef, .undef, .undef, .undef, .undef, .undef, .undef, .undef, .undef, .undef, .undef, .undef, .undef, .undef, .undef, .undef, .undef, .undef, .undef, .undef], [], (List.replicate 40 [])⟩)
abbrev htags.L0.X := (htags.L0.X0) ⊕ (htags.L0.X1)
abbrev htags.L0.Y := (htags.L0.Y0) ⊕ (htags.L0.Y1)
def htags.L0.out : htags.L0.X → Out (Exit × AS) := fun x => .br x.isLeft (.get x.getLeft? fun a => .ok (htags.L0.ex0 a)) (.get x.getRight? fun b => .ok (htags.L0.ex1 b))
def htags.L0.add : htags.L0.D → htags.L0.Y → htags.L0.X := fun (name_2, parts_2, head, i) y => match y with | .inl y => .inl head | .inr z => .inr ((name_2, parts_2, head))
abbrev htags.D := ByteArray × (List (List Int))
def htags.st : htags.D → List AVal × List Ent := fun (name, parts) => ([.d .str name, .d (.slice (.slice (.int .u8))) parts], [])
abbrev htags.Y := Bool
abbrev htags.X := Bool
def htags.out : htags.X → GRes := fun x => ⟨.d .bool x, [], []⟩
def htags.add : htags.D → htags.Y → htags.X := fun (name, parts) y => y


def small100 (ps : List (List Int)) : Bool := ps.all fun p => decide (p.length ≤ 100)
def htags.L0.Pre : htags.L0.D → Prop := fun (name, ps, head, i) => ps.length ≤ 8 ∧ ∃ k : Nat, k ≤ ps.length ∧ i = k
def htags.L0.F : htags.L0.D → htags.L0.Y := fun (name, ps, head, i) => if small100 (ps.drop i.toNat) then .inr () else .inl ()
def htags.Pre : htags.D → Prop := fun _ => True
def htags.F : htags.D → htags.Y := fun _ => true

noncomputable def htags.G : Gam := gcons 21 anyArgs small4.E (gcons 20 anyArgs htag.E (gcons 30 anyArgs rtag.E (gnil)))
noncomputable def htags.L0.E : LEntry := LEntry.of htags.L0.st htags.L0.Pre (fun d => htags.L0.add d (htags.L0.F d)) htags.L0.out
noncomputable def htags.L0.call : htags.L0.D → Option htags.L0.X := fun d => htags.L0.E.run (htags.L0.st d)
noncomputable def htags.an : Ann := {
  objs := [],
  loops := fun r => bif Nat.beq r 5 then { keep := [0, 1, 5, 6], sites := [], frz := [], data := [], owns := [] } else { keep := [], sites := [], frz := [], data := [], owns := [] },
  outs := fun r b => bif Nat.beq r 5 then (bif b then { keep := [4], sites := [], frz := [], data := [], owns := [] } else { keep := [0, 1, 5], sites := [], frz := [], data := [], owns := [] }) else { keep := [], sites := [], frz := [], data := [], owns := [] },
  sums := fun r => bif Nat.beq r 5 then some htags.L0.E else none,
  owns := [],
  trim := [],
  res := [] }
theorem htags.L0.inj : ∀ d d', htags.L0.st d = htags.L0.st d' → d = d' := fun (name_2, parts_2, head, i) (name_2', parts_2', head', i') hEq => by
  have e0 : name_2 = name_2' := d_inj (t := .str) (congrArg (fun s : AS => (s.slot 0)) hEq)
  have e1 : parts_2 = parts_2' := d_inj (t := (.slice (.slice (.int .u8)))) (congrArg (fun s : AS => (s.slot 1)) hEq)
  have e2 : head = head' := d_inj (t := .bool) (congrArg (fun s : AS => (s.slot 5)) hEq)
  have e3 : i = i' := d_inj (t := (.int .i64)) (congrArg (fun s : AS => (s.slot 6)) hEq)
  rw [e0, e1, e2, e3]
theorem htags.L0.run {d : htags.L0.D} (h : htags.L0.Pre d) : htags.L0.call d = some (htags.L0.add d (htags.L0.F d)) := LEntry.of_run htags.L0.inj h
theorem htags.L0.byRounds (μ : htags.L0.D → Nat) (h : ∀ d, htags.L0.Pre d → (∃ d', htags.L0.Pre d' ∧ μ d' < μ d ∧ htags.L0.add d' (htags.L0.F d') = htags.L0.add d (htags.L0.F d) ∧ ∀ {R : Type} (kn : AS → Option R) (kx : Exit → AS → Option R), lround Try.prog htags.G htags.an 0 Try.f10 0 (htags.L0.st d) kn kx = kn (htags.L0.st d')) ∨ (∃ r, (htags.L0.out (htags.L0.add d (htags.L0.F d))).eval = some r ∧ ∀ {R : Type} (kn : AS → Option R) (kx : Exit → AS → Option R), lround Try.prog htags.G htags.an 0 Try.f10 0 (htags.L0.st d) kn kx = kx r.1 r.2)) : ∀ d, htags.L0.Pre d → ∃ n, lrun Try.prog htags.G htags.an 0 Try.f10 0 n (htags.L0.st d) (fun e s => some (e, s)) = (htags.L0.out (htags.L0.add d (htags.L0.F d))).eval := lrun_of (F := fun d => htags.L0.add d (htags.L0.F d)) (out := htags.L0.out) μ h
theorem htags.L0.step {R : Type} (name_2 : ByteArray) (parts_2 : (List (List Int))) (head : Bool) (i : Int) (kn : AS → Option R) (kx : Exit → AS → Option R) : lround Try.prog htags.G htags.an 0 Try.f10 0 (htags.L0.st (name_2, parts_2, head, i)) kn kx =
  sel ((ilt i (((List.length parts_2) : Nat) : Int))) (
   sel (inb i (((List.length parts_2) : Nat) : Int)) (
   sel ((igt (((List.length (nth (.slice (.int .u8)) parts_2 (Int.toNat i))) : Nat) : Int) (100 : Int))) (
    kx (htags.L0.ex0 head).1 (htags.L0.ex0 head).2) (
    kn (htags.L0.st (name_2, parts_2, head, (iadd .i64 i (1 : Int)))))) none) (
   kx (htags.L0.ex1 (name_2, parts_2, head)).1 (htags.L0.ex1 (name_2, parts_2, head)).2) := by kernel_rfl
theorem htags.eq {R : Type} (name : ByteArray) (parts : (List (List Int))) (k : GRes → Option R) : arun Try.prog htags.G htags.an 0 Try.f10 (htags.st (name, parts)).1 (htags.st (name, parts)).2 k =
  obind (small4.call ()) fun x1 =>
  sel ((igt (((ByteArray.size name) : Nat) : Int) (100 : Int))) (
   k (htags.out x1)) (
   sel ((igt (((List.length parts) : Nat) : Int) (8 : Int))) (
    k (htags.out x1)) (
    obind (htags.L0.call (name, parts, x1, (0 : Int))) fun x2 =>
    sel (x2.isLeft) (
     obind (x2.getLeft?) fun a3 =>
     k (htags.out a3)) (
     obind (x2.getRight?) fun b4 =>
     sel (b4.2.2) (
      obind (htag.call (b4.1, b4.2.1)) fun x5 =>
      obind (rtag.call (b4.1, b4.2.1)) fun x6 =>
      k (htags.out (Ty.beq (.arr 32 (.int .u8)) x5 x6))) (
      k (htags.out false))))) := by kernel_rfl


theorem htags.L0.ok : ∀ d, htags.L0.Pre d → ∃ n, lrun Try.prog htags.G htags.an 0 Try.f10 0 n (htags.L0.st d) (fun e s => some (e, s)) = (htags.L0.out (htags.L0.add d (htags.L0.F d))).eval := by
  refine htags.L0.byRounds (fun (name, ps, head, i) => ps.length - i.toNat) ?_
  rintro ⟨name, ps, head, i⟩ ⟨hl, k, hk, rfl⟩
  have hl : ps.length ≤ 8 := hl
  have hk : k ≤ ps.length := hk
  by_cases h : k < ps.length
  · have hn : nth (.slice (.int .u8)) ps k = ps[k] := nth_lt (t := .slice (.int .u8)) h
    have hd : small100 (ps.drop k) = (decide (ps[k].length ≤ 100) && small100 (ps.drop (k + 1))) := by unfold small100; rw [List.drop_eq_getElem_cons h, List.all_cons]
    by_cases h2 : ps[k].length ≤ 100
    · left
      refine ⟨(name, ps, head, ((k + 1 : Nat) : Int)), ⟨hl, k + 1, by omega, rfl⟩, by simp only [Int.toNat_natCast]; omega, ?_, fun kn kx => ?_⟩
      · simp only [htags.L0.add, htags.L0.F, Int.toNat_natCast, hd, dec_true h2, Bool.true_and]
      · rw [htags.L0.step]
        simp (disch := omega) only [↓N.lt, ↓N.le, ↓N.gt, ↓N.ge, ↓N.eq, ↓N.ne, ↓N.ib, ↓N.ic, ↓N.nn, ↓N.nz, ↓N.dc, ↓N.rm, ↓N.an, ↓N.or, ↓N.no, ↓if_pos, ↓if_neg, ↓sel_true, ↓sel_false, ↓obind_some, if_pos, if_neg, obind_some, N.aNN, N.aNL, N.aLN, N.sNN, N.sNL, N.sLN, N.mNN, N.mNL, N.mLN, N.qNN, N.qNL, N.rNN, N.rNL, N.cN, N.cL, N.tL, Int.toNat_natCast, if_true, if_false, and_self, true_and, and_true, hn]
    · right
      refine ⟨htags.L0.ex0 head, ?_, fun kn kx => ?_⟩
      · simp only [htags.L0.add, htags.L0.F, Int.toNat_natCast, hd, dec_false h2, Bool.false_and, Bool.false_eq_true, if_false]
        rfl
      · rw [htags.L0.step]
        simp (disch := omega) only [↓N.lt, ↓N.le, ↓N.gt, ↓N.ge, ↓N.eq, ↓N.ne, ↓N.ib, ↓N.ic, ↓N.nn, ↓N.nz, ↓N.dc, ↓N.rm, ↓N.an, ↓N.or, ↓N.no, ↓if_pos, ↓if_neg, ↓sel_true, ↓sel_false, ↓obind_some, if_pos, if_neg, obind_some, N.aNN, N.aNL, N.aLN, N.sNN, N.sNL, N.sLN, N.mNN, N.mNL, N.mLN, N.qNN, N.qNL, N.rNN, N.rNL, N.cN, N.cL, N.tL, Int.toNat_natCast, if_true, if_false, and_self, true_and, and_true, hn]
  · right
    obtain rfl : k = ps.length := by omega
    refine ⟨htags.L0.ex1 (name, ps, head), ?_, fun kn kx => ?_⟩
    · simp only [htags.L0.add, htags.L0.F, Int.toNat_natCast, List.drop_length]
      rfl
    · rw [htags.L0.step]
      simp (disch := omega) only [↓N.lt, ↓N.le, ↓N.gt, ↓N.ge, ↓N.eq, ↓N.ne, ↓N.ib, ↓N.ic, ↓N.nn, ↓N.nz, ↓N.dc, ↓N.rm, ↓N.an, ↓N.or, ↓N.no, ↓if_pos, ↓if_neg, ↓sel_true, ↓sel_false, ↓obind_some, if_pos, if_neg, obind_some, N.aNN, N.aNL, N.aLN, N.sNN, N.sNL, N.sLN, N.mNN, N.mNL, N.mLN, N.qNN, N.qNL, N.rNN, N.rNL, N.cN, N.cL, N.tL, Int.toNat_natCast, if_true, if_false, and_self, true_and, and_true]
theorem tagp_le : ∀ {ps : List (List Int)}, small100 ps = true → (tagp ps).length ≤ 108 * ps.length
  | [], _ => by simp [tagp]
  | p :: ps, h => by
    unfold small100 at h
    rw [List.all_cons, Bool.and_eq_true] at h
    have h1 : p.length ≤ 100 := by simpa using h.1
    have := tagp_le (ps := ps) h.2
    rw [tagp_cons]
    simp only [List.length_append, be8_length, List.length_cons]
    omega
theorem tag_pre {name : ByteArray} {ps : List (List Int)} (h1 : name.size ≤ 100) (h2 : ps.length ≤ 8) (h3 : small100 ps = true) : htag.Pre (name, ps) ∧ rtag.Pre (name, ps) := by
  have := tagp_le h3
  have e : (tagb (bytesOfStr name) ps).length ≤ 140737488350000 := by
    rw [tagb_length, bytesOfStr_length]
    omega
  exact ⟨e, e⟩
theorem htags.ok : ∀ d, htags.Pre d → arun Try.prog htags.G htags.an 0 Try.f10 (htags.st d).1 (htags.st d).2 some = some (htags.out (htags.add d (htags.F d))) := by
  rintro ⟨name, ps⟩ _
  have e1 : small4.call () = some true := small4.run (d := ()) trivial
  rw [htags.eq, e1]
  simp only [obind_some]
  by_cases h1 : 100 < name.size
  · rw [igt_true (by omega)]; rfl
  rw [igt_false (by omega), sel_false]
  by_cases h2 : 8 < ps.length
  · rw [igt_true (by omega)]; rfl
  rw [igt_false (by omega), sel_false]
  have p1 : htags.L0.Pre (name, ps, true, 0) := ⟨by omega, 0, Nat.zero_le _, rfl⟩
  rw [htags.L0.run p1]
  simp only [htags.L0.add, htags.L0.F, Int.toNat_zero, List.drop_zero, obind_some]
  by_cases h3 : small100 ps = true
  · obtain ⟨q1, q2⟩ := tag_pre (name := name) (by omega) (by omega : ps.length ≤ 8) h3
    simp only [h3, if_true]
    show obind (htag.call (name, ps)) _ = _
    rw [htag.run q1]
    show obind (rtag.call (name, ps)) _ = _
    rw [rtag.run q2]
    show some (htags.out (Ty.beq (.arr 32 (.int .u8)) (tag _ _) (tag _ _))) = _
    rw [beq_ints, dec_true rfl]
    rfl
  · simp only [h3, Bool.false_eq_true, if_false]
    rfl

theorem htags.inj : ∀ d d', htags.st d = htags.st d' → d = d' := fun (name, parts) (name', parts') hEq => by
  have e0 : name = name' := d_inj (t := .str) (congrArg (fun s : List AVal × List Ent => (s.1.getD 0 .undef)) hEq)
  have e1 : parts = parts' := d_inj (t := (.slice (.slice (.int .u8)))) (congrArg (fun s : List AVal × List Ent => (s.1.getD 1 .undef)) hEq)
  rw [e0, e1]
noncomputable def htags.E : Entry := Entry.of [some .str, some (.slice (.slice (.int .u8)))] htags.st htags.Pre (fun d => htags.add d (htags.F d)) htags.out
noncomputable def htags.call : htags.D → Option htags.X := fun d => htags.E.run (htags.st d).1 (htags.st d).2
theorem htags.run {d : htags.D} (h : htags.Pre d) : htags.call d = some (htags.add d (htags.F d)) := Entry.of_run htags.inj h
theorem htags.does : Does Try.prog 10 htags.E := Does.of (by kernel_rfl) (show Sound _ htags.G from Sound.cons small4.does (Sound.cons htag.does (Sound.cons rtag.does (Sound.nil _)))) (by kernel_rfl) (by kernel_rfl) (by kernel_rfl) (LOk.fn 1 (by kernel_rfl) (And.intro (LDo.of (by kernel_rfl) htags.L0.ok) trivial)) htags.ok

/-! ### corsned/corsnedlaw04.HashNames -/
abbrev hnames.D := ByteArray × (List Int) × (List Int)
def hnames.st : hnames.D → List AVal × List Ent := fun (name, a, b) => ([.d .str name, .d (.slice (.int .u8)) a, .d (.slice (.int .u8)) b], [])
abbrev hnames.Y := Bool
abbrev hnames.X := Bool
def hnames.out : hnames.X → GRes := fun x => ⟨.d .bool x, [], []⟩
def hnames.add : hnames.D → hnames.Y → hnames.X := fun (name, a, b) y => y


def hnames.Pre : hnames.D → Prop := fun _ => True
def hnames.F : hnames.D → hnames.Y := fun _ => true

noncomputable def hnames.G : Gam := gcons 21 anyArgs small4.E (gcons 24 anyArgs hsum.E (gcons 20 anyArgs htag.E (gnil)))
noncomputable def hnames.an : Ann := {
  objs := [28],
  loops := fun r => { keep := [], sites := [], frz := [], data := [], owns := [] },
  outs := fun r b => { keep := [], sites := [], frz := [], data := [], owns := [] },
  sums := fun r => none,
  owns := [],
  trim := [],
  res := [] }
theorem hnames.eq {R : Type} (name : ByteArray) (a : (List Int)) (b : (List Int)) (k : GRes → Option R) : arun Try.prog hnames.G hnames.an 0 Try.f12 (hnames.st (name, a, b)).1 (hnames.st (name, a, b)).2 k =
  obind (small4.call ()) fun x1 =>
  sel ((igt (((ByteArray.size name) : Nat) : Int) (100 : Int))) (
   k (hnames.out x1)) (
   sel ((igt (((List.length a) : Nat) : Int) (100 : Int))) (
    k (hnames.out x1)) (
    sel ((igt (((List.length b) : Nat) : Int) (100 : Int))) (
     k (hnames.out x1)) (
     sel (roomA (8 + (List.length (bytesOfStr name))) 1) (
     sel (decide ((8 + (List.length (bytesOfStr name))) ≤ (List.length ([(0 : Int), (0 : Int), (0 : Int), (0 : Int), (0 : Int), (0 : Int), (0 : Int), (icv .u8 (((ByteArray.size name) : Nat) : Int))] ++ (bytesOfStr name))))) (
     sel (roomA ((8 + (List.length (bytesOfStr name))) + 8) 1) (
     sel (decide (((8 + (List.length (bytesOfStr name))) + 8) ≤ (List.length ((List.take (8 + (List.length (bytesOfStr name))) ([(0 : Int), (0 : Int), (0 : Int), (0 : Int), (0 : Int), (0 : Int), (0 : Int), (icv .u8 (((ByteArray.size name) : Nat) : Int))] ++ (bytesOfStr name))) ++ [(0 : Int), (0 : Int), (0 : Int), (0 : Int), (0 : Int), (0 : Int), (0 : Int), (icv .u8 (((List.length a) : Nat) : Int))])))) (
     sel (roomA (((8 + (List.length (bytesOfStr name))) + 8) + (List.length a)) 1) (
     sel (decide (0 = 0 ∧ (0 + (((8 + (List.length (bytesOfStr name))) + 8) + (List.length a))) ≤ (List.length ((List.take ((8 + (List.length (bytesOfStr name))) + 8) ((List.take (8 + (List.length (bytesOfStr name))) ([(0 : Int), (0 : Int), (0 : Int), (0 : Int), (0 : Int), (0 : Int), (0 : Int), (icv .u8 (((ByteArray.size name) : Nat) : Int))] ++ (bytesOfStr name))) ++ [(0 : Int), (0 : Int), (0 : Int), (0 : Int), (0 : Int), (0 : Int), (0 : Int), (icv .u8 (((List.length a) : Nat) : Int))])) ++ a)))) (
     obind (hsum.call (cut ((List.take ((8 + (List.length (bytesOfStr name))) + 8) ((List.take (8 + (List.length (bytesOfStr name))) ([(0 : Int), (0 : Int), (0 : Int), (0 : Int), (0 : Int), (0 : Int), (0 : Int), (icv .u8 (((ByteArray.size name) : Nat) : Int))] ++ (bytesOfStr name))) ++ [(0 : Int), (0 : Int), (0 : Int), (0 : Int), (0 : Int), (0 : Int), (0 : Int), (icv .u8 (((List.length a) : Nat) : Int))])) ++ a) 0 (((8 + (List.length (bytesOfStr name))) + 8) + (List.length a)))) fun x2 =>
     sel (decide ((((8 + (List.length (bytesOfStr name))) + 8) + (List.length a)) ≤ (List.length ((List.take ((8 + (List.length (bytesOfStr name))) + 8) ((List.take (8 + (List.length (bytesOfStr name))) ([(0 : Int), (0 : Int), (0 : Int), (0 : Int), (0 : Int), (0 : Int), (0 : Int), (icv .u8 (((ByteArray.size name) : Nat) : Int))] ++ (bytesOfStr name))) ++ [(0 : Int), (0 : Int), (0 : Int), (0 : Int), (0 : Int), (0 : Int), (0 : Int), (icv .u8 (((List.length a) : Nat) : Int))])) ++ a)))) (
     sel (decide ((((8 + (List.length (bytesOfStr name))) + 8) + (List.length a)) = (List.length ((List.take ((8 + (List.length (bytesOfStr name))) + 8) ((List.take (8 + (List.length (bytesOfStr name))) ([(0 : Int), (0 : Int), (0 : Int), (0 : Int), (0 : Int), (0 : Int), (0 : Int), (icv .u8 (((ByteArray.size name) : Nat) : Int))] ++ (bytesOfStr name))) ++ [(0 : Int), (0 : Int), (0 : Int), (0 : Int), (0 : Int), (0 : Int), (0 : Int), (icv .u8 (((List.length a) : Nat) : Int))])) ++ a)))) (
     sel (roomA ((((8 + (List.length (bytesOfStr name))) + 8) + (List.length a)) + 8) 1) (
     sel (decide (((((8 + (List.length (bytesOfStr name))) + 8) + (List.length a)) + 8) ≤ (List.length ((List.take (((8 + (List.length (bytesOfStr name))) + 8) + (List.length a)) ((List.take ((8 + (List.length (bytesOfStr name))) + 8) ((List.take (8 + (List.length (bytesOfStr name))) ([(0 : Int), (0 : Int), (0 : Int), (0 : Int), (0 : Int), (0 : Int), (0 : Int), (icv .u8 (((ByteArray.size name) : Nat) : Int))] ++ (bytesOfStr name))) ++ [(0 : Int), (0 : Int), (0 : Int), (0 : Int), (0 : Int), (0 : Int), (0 : Int), (icv .u8 (((List.length a) : Nat) : Int))])) ++ a)) ++ [(0 : Int), (0 : Int), (0 : Int), (0 : Int), (0 : Int), (0 : Int), (0 : Int), (icv .u8 (((List.length b) : Nat) : Int))])))) (
     sel (decide (((((8 + (List.length (bytesOfStr name))) + 8) + (List.length a)) + 8) = (List.length ((List.take (((8 + (List.length (bytesOfStr name))) + 8) + (List.length a)) ((List.take ((8 + (List.length (bytesOfStr name))) + 8) ((List.take (8 + (List.length (bytesOfStr name))) ([(0 : Int), (0 : Int), (0 : Int), (0 : Int), (0 : Int), (0 : Int), (0 : Int), (icv .u8 (((ByteArray.size name) : Nat) : Int))] ++ (bytesOfStr name))) ++ [(0 : Int), (0 : Int), (0 : Int), (0 : Int), (0 : Int), (0 : Int), (0 : Int), (icv .u8 (((List.length a) : Nat) : Int))])) ++ a)) ++ [(0 : Int), (0 : Int), (0 : Int), (0 : Int), (0 : Int), (0 : Int), (0 : Int), (icv .u8 (((List.length b) : Nat) : Int))])))) (
     sel (roomA (((((8 + (List.length (bytesOfStr name))) + 8) + (List.length a)) + 8) + (List.length b)) 1) (
     sel (x1) (
      obind (htag.call (name, [a])) fun x3 =>
      sel ((Ty.beq (.arr 32 (.int .u8)) x3 x2)) (
       obind (htag.call (name, [a, b])) fun x4 =>
       sel (decide (0 = 0 ∧ (0 + (((((8 + (List.length (bytesOfStr name))) + 8) + (List.length a)) + 8) + (List.length b))) ≤ (List.length ((List.take ((((8 + (List.length (bytesOfStr name))) + 8) + (List.length a)) + 8) ((List.take (((8 + (List.length (bytesOfStr name))) + 8) + (List.length a)) ((List.take ((8 + (List.length (bytesOfStr name))) + 8) ((List.take (8 + (List.length (bytesOfStr name))) ([(0 : Int), (0 : Int), (0 : Int), (0 : Int), (0 : Int), (0 : Int), (0 : Int), (icv .u8 (((ByteArray.size name) : Nat) : Int))] ++ (bytesOfStr name))) ++ [(0 : Int), (0 : Int), (0 : Int), (0 : Int), (0 : Int), (0 : Int), (0 : Int), (icv .u8 (((List.length a) : Nat) : Int))])) ++ a)) ++ [(0 : Int), (0 : Int), (0 : Int), (0 : Int), (0 : Int), (0 : Int), (0 : Int), (icv .u8 (((List.length b) : Nat) : Int))])) ++ b)))) (
       obind (hsum.call (cut ((List.take ((((8 + (List.length (bytesOfStr name))) + 8) + (List.length a)) + 8) ((List.take (((8 + (List.length (bytesOfStr name))) + 8) + (List.length a)) ((List.take ((8 + (List.length (bytesOfStr name))) + 8) ((List.take (8 + (List.length (bytesOfStr name))) ([(0 : Int), (0 : Int), (0 : Int), (0 : Int), (0 : Int), (0 : Int), (0 : Int), (icv .u8 (((ByteArray.size name) : Nat) : Int))] ++ (bytesOfStr name))) ++ [(0 : Int), (0 : Int), (0 : Int), (0 : Int), (0 : Int), (0 : Int), (0 : Int), (icv .u8 (((List.length a) : Nat) : Int))])) ++ a)) ++ [(0 : Int), (0 : Int), (0 : Int), (0 : Int), (0 : Int), (0 : Int), (0 : Int), (icv .u8 (((List.length b) : Nat) : Int))])) ++ b) 0 (((((8 + (List.length (bytesOfStr name))) + 8) + (List.length a)) + 8) + (List.length b)))) fun x5 =>
       k (hnames.out (Ty.beq (.arr 32 (.int .u8)) x4 x5))) none) (
       k (hnames.out false))) (
      k (hnames.out false))) none) none) none) none) none) none) none) none) none) none) none) none))) := by kernel_rfl


theorem be8_row {n : Nat} (h : n ≤ 100) : [(0 : Int), (0 : Int), (0 : Int), (0 : Int), (0 : Int), (0 : Int), (0 : Int), icv .u8 ((n : Nat) : Int)] = be8 (n : Int) := by
  rw [be8_small (by omega) (by omega), icv_u8_small (by omega) (by omega)]
theorem hnames.ok : ∀ d, hnames.Pre d → arun Try.prog hnames.G hnames.an 0 Try.f12 (hnames.st d).1 (hnames.st d).2 some = some (hnames.out (hnames.add d (hnames.F d))) := by
  rintro ⟨name, a, b⟩ _
  have e1 : small4.call () = some true := small4.run (d := ()) trivial
  rw [hnames.eq, e1]
  simp only [obind_some]
  by_cases h1 : 100 < name.size
  · rw [igt_true (by omega)]; rfl
  rw [igt_false (by omega), sel_false]
  by_cases h2 : 100 < a.length
  · rw [igt_true (by omega)]; rfl
  rw [igt_false (by omega), sel_false]
  by_cases h3 : 100 < b.length
  · rw [igt_true (by omega)]; rfl
  rw [igt_false (by omega), sel_false, be8_row (by omega : name.size ≤ 100), be8_row (by omega : a.length ≤ 100), be8_row (by omega : b.length ≤ 100)]
  have hn : (bytesOfStr name).length = name.size := bytesOfStr_length name
  have l1 : (be8 (name.size : Int) ++ bytesOfStr name).length = 8 + (bytesOfStr name).length := by rw [List.length_append, be8_length]
  have l2 : (be8 (name.size : Int) ++ bytesOfStr name ++ be8 (a.length : Int)).length = 8 + (bytesOfStr name).length + 8 := by rw [@List.length_append _ _ (be8 (a.length : Int)), be8_length, l1]
  have l3 : (be8 (name.size : Int) ++ bytesOfStr name ++ be8 (a.length : Int) ++ a).length = 8 + (bytesOfStr name).length + 8 + a.length := by rw [@List.length_append _ _ a, l2]
  have l4 : (be8 (name.size : Int) ++ bytesOfStr name ++ be8 (a.length : Int) ++ a ++ be8 (b.length : Int)).length = 8 + (bytesOfStr name).length + 8 + a.length + 8 := by rw [@List.length_append _ _ (be8 (b.length : Int)), be8_length, l3]
  have l5 : (be8 (name.size : Int) ++ bytesOfStr name ++ be8 (a.length : Int) ++ a ++ be8 (b.length : Int) ++ b).length = 8 + (bytesOfStr name).length + 8 + a.length + 8 + b.length := by rw [@List.length_append _ _ b, l4]
  have s1 : small100 [a] = true := by simp [small100]; omega
  have s2 : small100 [a, b] = true := by simp [small100]; omega
  obtain ⟨q1, _⟩ := tag_pre (name := name) (by omega) (by simp : [a].length ≤ 8) s1
  obtain ⟨q2, _⟩ := tag_pre (name := name) (by omega) (by simp : [a, b].length ≤ 8) s2
  have t1 : tagb (bytesOfStr name) [a] = be8 (name.size : Int) ++ bytesOfStr name ++ be8 (a.length : Int) ++ a := by
    simp only [tagb, tagp, List.flatMap_cons, List.flatMap_nil, List.append_nil, hn, List.append_assoc]
  have t2 : tagb (bytesOfStr name) [a, b] = be8 (name.size : Int) ++ bytesOfStr name ++ be8 (a.length : Int) ++ a ++ be8 (b.length : Int) ++ b := by
    simp only [tagb, tagp, List.flatMap_cons, List.flatMap_nil, List.append_nil, hn, List.append_assoc]
  rw [List.take_of_length_le (Nat.le_of_eq l1), List.take_of_length_le (Nat.le_of_eq l2), List.take_of_length_le (Nat.le_of_eq l3), List.take_of_length_le (Nat.le_of_eq l4), l1, l2, l3, l4, l5, cut0 l3, cut0 l5]
  have c1 : hsum.call (be8 (name.size : Int) ++ bytesOfStr name ++ be8 (a.length : Int) ++ a) = some (tag (bytesOfStr name) [a]) := by
    rw [← t1]
    exact hsum.run (d := tagb (bytesOfStr name) [a]) q1
  have c2 : hsum.call (be8 (name.size : Int) ++ bytesOfStr name ++ be8 (a.length : Int) ++ a ++ be8 (b.length : Int) ++ b) = some (tag (bytesOfStr name) [a, b]) := by
    rw [← t2]
    exact hsum.run (d := tagb (bytesOfStr name) [a, b]) q2
  have c3 : htag.call (name, [a]) = some (tag (bytesOfStr name) [a]) := htag.run q1
  have c4 : htag.call (name, [a, b]) = some (tag (bytesOfStr name) [a, b]) := htag.run q2
  rw [c1, c2, c3, c4]
  generalize tag (bytesOfStr name) [a] = u1
  generalize tag (bytesOfStr name) [a, b] = u2
  simp (disch := omega) only [↓N.lt, ↓N.le, ↓N.gt, ↓N.ge, ↓N.eq, ↓N.ne, ↓N.ib, ↓N.ic, ↓N.nn, ↓N.nz, ↓N.dc, ↓N.rm, ↓N.an, ↓N.or, ↓N.no, ↓if_pos, ↓if_neg, ↓sel_true, ↓sel_false, ↓obind_some, if_pos, if_neg, obind_some, N.aNN, N.aNL, N.aLN, N.sNN, N.sNL, N.sLN, N.mNN, N.mNL, N.mLN, N.qNN, N.qNL, N.rNN, N.rNL, N.cN, N.cL, N.tL, Int.toNat_natCast, if_true, if_false, and_self, true_and, and_true, beq_ints, decide_true, Nat.zero_add, Nat.le_refl]
  rfl

theorem hnames.inj : ∀ d d', hnames.st d = hnames.st d' → d = d' := fun (name, a, b) (name', a', b') hEq => by
  have e0 : name = name' := d_inj (t := .str) (congrArg (fun s : List AVal × List Ent => (s.1.getD 0 .undef)) hEq)
  have e1 : a = a' := d_inj (t := (.slice (.int .u8))) (congrArg (fun s : List AVal × List Ent => (s.1.getD 1 .undef)) hEq)
  have e2 : b = b' := d_inj (t := (.slice (.int .u8))) (congrArg (fun s : List AVal × List Ent => (s.1.getD 2 .undef)) hEq)
  rw [e0, e1, e2]
noncomputable def hnames.E : Entry := Entry.of [some .str, some (.slice (.int .u8)), some (.slice (.int .u8))] hnames.st hnames.Pre (fun d => hnames.add d (hnames.F d)) hnames.out
noncomputable def hnames.call : hnames.D → Option hnames.X := fun d => hnames.E.run (hnames.st d).1 (hnames.st d).2
theorem hnames.run {d : hnames.D} (h : hnames.Pre d) : hnames.call d = some (hnames.add d (hnames.F d)) := Entry.of_run hnames.inj h
theorem hnames.does : Does Try.prog 12 hnames.E := Does.of (by kernel_rfl) (show Sound _ hnames.G from Sound.cons small4.does (Sound.cons hsum.does (Sound.cons htag.does (Sound.nil _)))) (by kernel_rfl) (by kernel_rfl) (by kernel_rfl) (LOk.fn 0 (by kernel_rfl) trivial) hnames.ok

end Go.Ab
