/-
  Made by a program of mine (wip/gen), and by hand.
-/
import Derived.Test.YtdmpbapgnkdjpaaHb4
namespace Go.Ab
open Go.Proofs
set_option maxRecDepth 100000
set_option linter.unusedVariables false
set_option linter.unusedSimpArgs false

/-! ### corsned/corsnedlaw04.small -/
abbrev small4.D := Unit
def small4.st : small4.D → List AVal × List Ent := fun _ => ([], [])
abbrev small4.Y := Bool
abbrev small4.X := Bool
def small4.out : small4.X → GRes := fun x => ⟨.d .bool x, [], []⟩
def small4.add : small4.D → small4.Y → small4.X := fun _ y => y


def small4.Pre : small4.D → Prop := fun _ => True
def small4.F : small4.D → small4.Y := fun _ => true

noncomputable def small4.G : Gam := gcons 24 anyArgs hsum.E (gcons 22 anyArgs hread.E (gcons 28 anyArgs hhex.E (gcons 26 anyArgs hnum.E (gcons 20 anyArgs htag.E (gnil)))))
noncomputable def small4.an : Ann := {
  objs := [8, 51, 55],
  loops := fun r => { keep := [], sites := [], frz := [], data := [], owns := [] },
  outs := fun r b => { keep := [], sites := [], frz := [], data := [], owns := [] },
  sums := fun r => none,
  owns := [],
  trim := [],
  res := [] }
theorem small4.eq {R : Type}  (k : GRes → Option R) : arun Try.prog small4.G small4.an 0 Try.f21 (small4.st ()).1 (small4.st ()).2 k =
  obind (hsum.call ([] : List Int)) fun x1 =>
  obind (hsum.call [(97 : Int), (98 : Int), (99 : Int)]) fun x2 =>
  obind (hread.call (⟨#[101, 51, 98, 48, 99, 52, 52, 50, 57, 56, 102, 99, 49, 99, 49, 52, 57, 97, 102, 98, 102, 52, 99, 56, 57, 57, 54, 102, 98, 57, 50, 52, 50, 55, 97, 101, 52, 49, 101, 52, 54, 52, 57, 98, 57, 51, 52, 99, 97, 52, 57, 53, 57, 57, 49, 98, 55, 56, 53, 50, 98, 56, 53, 53]⟩ : ByteArray)) fun x3 =>
  obind (hread.call (⟨#[69, 51, 98, 48, 99, 52, 52, 50, 57, 56, 102, 99, 49, 99, 49, 52, 57, 97, 102, 98, 102, 52, 99, 56, 57, 57, 54, 102, 98, 57, 50, 52, 50, 55, 97, 101, 52, 49, 101, 52, 54, 52, 57, 98, 57, 51, 52, 99, 97, 52, 57, 53, 57, 57, 49, 98, 55, 56, 53, 50, 98, 56, 53, 53]⟩ : ByteArray)) fun x4 =>
  obind (hhex.call x1) fun x5 =>
  sel ((seq x5 (⟨#[101, 51, 98, 48, 99, 52, 52, 50, 57, 56, 102, 99, 49, 99, 49, 52, 57, 97, 102, 98, 102, 52, 99, 56, 57, 57, 54, 102, 98, 57, 50, 52, 50, 55, 97, 101, 52, 49, 101, 52, 54, 52, 57, 98, 57, 51, 52, 99, 97, 52, 57, 53, 57, 57, 49, 98, 55, 56, 53, 50, 98, 56, 53, 53]⟩ : ByteArray))) (
   obind (hhex.call x2) fun x6 =>
   sel ((seq x6 (⟨#[98, 97, 55, 56, 49, 54, 98, 102, 56, 102, 48, 49, 99, 102, 101, 97, 52, 49, 52, 49, 52, 48, 100, 101, 53, 100, 97, 101, 50, 50, 50, 51, 98, 48, 48, 51, 54, 49, 97, 51, 57, 54, 49, 55, 55, 97, 57, 99, 98, 52, 49, 48, 102, 102, 54, 49, 102, 50, 48, 48, 49, 53, 97, 100]⟩ : ByteArray))) (
    sel (x3.2) (
     sel ((Ty.beq (.arr 32 (.int .u8)) x3.1 x1)) (
      sel ((!x4.2)) (
       obind (hnum.call x1) fun x7 =>
       sel ((ieq x7 (16406829232824261652 : Int))) (
        obind (htag.call ((⟨#[]⟩ : ByteArray), ([] : List (List Int)))) fun x8 =>
        obind (hsum.call [(0 : Int), (0 : Int), (0 : Int), (0 : Int), (0 : Int), (0 : Int), (0 : Int), (0 : Int)]) fun x9 =>
        sel ((Ty.beq (.arr 32 (.int .u8)) x8 x9)) (
         obind (htag.call ((⟨#[97]⟩ : ByteArray), [[(98 : Int), (99 : Int)]])) fun x10 =>
         obind (htag.call ((⟨#[97, 98]⟩ : ByteArray), [[(99 : Int)]])) fun x11 =>
         k (small4.out (!(Ty.beq (.arr 32 (.int .u8)) x10 x11)))) (
         k (small4.out false))) (
        k (small4.out false))) (
       k (small4.out false))) (
      k (small4.out false))) (
     k (small4.out false))) (
    k (small4.out false))) (
   k (small4.out false)) := by kernel_rfl


theorem small4_facts : ∃ s0 s1 : List Int, sha [] = s0 ∧ sha [97, 98, 99] = s1 ∧ s0.length = 32 ∧ s1.length = 32 ∧ strOfBytes (hexB s0) = (⟨#[101, 51, 98, 48, 99, 52, 52, 50, 57, 56, 102, 99, 49, 99, 49, 52, 57, 97, 102, 98, 102, 52, 99, 56, 57, 57, 54, 102, 98, 57, 50, 52, 50, 55, 97, 101, 52, 49, 101, 52, 54, 52, 57, 98, 57, 51, 52, 99, 97, 52, 57, 53, 57, 57, 49, 98, 55, 56, 53, 50, 98, 56, 53, 53]⟩ : ByteArray) ∧ strOfBytes (hexB s1) = (⟨#[98, 97, 55, 56, 49, 54, 98, 102, 56, 102, 48, 49, 99, 102, 101, 97, 52, 49, 52, 49, 52, 48, 100, 101, 53, 100, 97, 101, 50, 50, 50, 51, 98, 48, 48, 51, 54, 49, 97, 51, 57, 54, 49, 55, 55, 97, 57, 99, 98, 52, 49, 48, 102, 102, 54, 49, 102, 50, 48, 48, 49, 53, 97, 100]⟩ : ByteArray) ∧
    readB (bytesOfStr (⟨#[101, 51, 98, 48, 99, 52, 52, 50, 57, 56, 102, 99, 49, 99, 49, 52, 57, 97, 102, 98, 102, 52, 99, 56, 57, 57, 54, 102, 98, 57, 50, 52, 50, 55, 97, 101, 52, 49, 101, 52, 54, 52, 57, 98, 57, 51, 52, 99, 97, 52, 57, 53, 57, 57, 49, 98, 55, 56, 53, 50, 98, 56, 53, 53]⟩ : ByteArray)) = (s0, true) ∧ (readB (bytesOfStr (⟨#[69, 51, 98, 48, 99, 52, 52, 50, 57, 56, 102, 99, 49, 99, 49, 52, 57, 97, 102, 98, 102, 52, 99, 56, 57, 57, 54, 102, 98, 57, 50, 52, 50, 55, 97, 101, 52, 49, 101, 52, 54, 52, 57, 98, 57, 51, 52, 99, 97, 52, 57, 53, 57, 57, 49, 98, 55, 56, 53, 50, 98, 56, 53, 53]⟩ : ByteArray))).2 = false ∧ num8 s0 = 16406829232824261652 :=
  ⟨_, _, rfl, rfl, sha_length _, sha_length _, by decide +kernel, by decide +kernel, by decide +kernel, by decide +kernel, by decide +kernel⟩
theorem small4_tags : ∃ t0 t1 t2 : List Int, tag [] [] = t0 ∧ sha [0, 0, 0, 0, 0, 0, 0, 0] = t0 ∧ tag [97] [[98, 99]] = t1 ∧ tag [97, 98] [[99]] = t2 ∧ t1 ≠ t2 :=
  ⟨_, _, _, rfl, by decide +kernel, rfl, rfl, by decide +kernel⟩
theorem small4.ok : ∀ d, small4.Pre d → arun Try.prog small4.G small4.an 0 Try.f21 (small4.st d).1 (small4.st d).2 some = some (small4.out (small4.add d (small4.F d))) := by
  intro d _
  obtain ⟨s0, s1, h0, h1, l0, l1, x0, x1, r1, r2, n0⟩ := small4_facts
  obtain ⟨t0, t1, t2, g0, g1, g2, g3, hne⟩ := small4_tags
  have b0 : Bytes s0 := h0 ▸ bytes_sha _
  have b1 : Bytes s1 := h1 ▸ bytes_sha _
  have a0 : hsum.call [] = some s0 := by rw [hsum.run (d := []) (show (0 : Nat) ≤ _ by omega), ← h0]; rfl
  have a1 : hsum.call [97, 98, 99] = some s1 := by rw [hsum.run (d := [97, 98, 99]) (show (3 : Nat) ≤ _ by omega), ← h1]; rfl
  have a2 : ∀ s, hread.call s = some (readB (bytesOfStr s)) := fun s => hread.run (d := s) trivial
  have a3 : hhex.call s0 = some (strOfBytes (hexB s0)) := hhex.run (d := s0) ⟨l0, b0⟩
  have a4 : hhex.call s1 = some (strOfBytes (hexB s1)) := hhex.run (d := s1) ⟨l1, b1⟩
  have a5 : hnum.call s0 = some (num8 s0) := hnum.run (d := s0) l0
  have a6 : htag.call (⟨#[]⟩, []) = some t0 := by rw [htag.run (d := (⟨#[]⟩, [])) (show (8 : Nat) ≤ _ by omega), ← g0]; rfl
  have a7 : hsum.call [0, 0, 0, 0, 0, 0, 0, 0] = some t0 := by rw [hsum.run (d := [0, 0, 0, 0, 0, 0, 0, 0]) (show (8 : Nat) ≤ _ by omega), ← g1]; rfl
  have a8 : htag.call (⟨#[97]⟩, [[98, 99]]) = some t1 := by rw [htag.run (d := (⟨#[97]⟩, [[98, 99]])) (show (19 : Nat) ≤ _ by omega), ← g2]; rfl
  have a9 : htag.call (⟨#[97, 98]⟩, [[99]]) = some t2 := by rw [htag.run (d := (⟨#[97, 98]⟩, [[99]])) (show (19 : Nat) ≤ _ by omega), ← g3]; rfl
  rw [small4.eq, a0, a1, a2, a2, r1]
  simp only [obind_some, a3, a4, a5, a6, a7, a8, a9, x0, x1, seq_self, sel_true, beq_ints, decide_true, r2, Bool.not_false, n0, ieq_true, dec_false hne]
  rfl

theorem small4.inj : ∀ d d', small4.st d = small4.st d' → d = d' := fun _ _ _ => rfl
noncomputable def small4.E : Entry := Entry.of [] small4.st small4.Pre (fun d => small4.add d (small4.F d)) small4.out
noncomputable def small4.call : small4.D → Option small4.X := fun d => small4.E.run (small4.st d).1 (small4.st d).2
theorem small4.run {d : small4.D} (h : small4.Pre d) : small4.call d = some (small4.add d (small4.F d)) := Entry.of_run small4.inj h
theorem small4.does : Does Try.prog 21 small4.E := Does.of (by kernel_rfl) (show Sound _ small4.G from Sound.cons hsum.does (Sound.cons hread.does (Sound.cons hhex.does (Sound.cons hnum.does (Sound.cons htag.does (Sound.nil _)))))) (by kernel_rfl) (by kernel_rfl) (by kernel_rfl) (LOk.fn 0 (by kernel_rfl) trivial) small4.ok

end Go.Ab
