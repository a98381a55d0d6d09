/-
  Made by a program of mine (wip/gen), and by hand.
-/
import Derived.Test.YtdmpbapgnkdjpaaSl1
namespace Go.Ab
open Go.Proofs
set_option maxRecDepth 100000
set_option linter.unusedVariables false
set_option linter.unusedSimpArgs false

/-! ### corsned/corsnedlaw09.SealBack -/
abbrev lback.D := (List Int) × (List Int) × (List Int)
def lback.st : lback.D → List AVal × List Ent := fun (key, plain, sealed) => ([.d (.arr 32 (.int .u8)) key, .d (.slice (.int .u8)) plain, .d (.slice (.int .u8)) sealed], [])
abbrev lback.Y := Bool
abbrev lback.X := Bool
def lback.out : lback.X → GRes := fun x => ⟨.d .bool x, [], []⟩
def lback.add : lback.D → lback.Y → lback.X := fun (key, plain, sealed) y => y


def lback.Pre : lback.D → Prop := fun (key, a, b) => key.length = 32 ∧ Bytes a ∧ Bytes b
def lback.F : lback.D → lback.Y := fun _ => true

noncomputable def lback.G : Gam := gcons 13 anyArgs small9.E (gcons 18 anyArgs sseal.E (gcons 14 anyArgs sopen.E (gnil)))
noncomputable def lback.an : Ann := {
  objs := [],
  loops := fun r => { keep := [], sites := [], frz := [], data := [], owns := [] },
  outs := fun r b => { keep := [], sites := [], frz := [], data := [], owns := [] },
  sums := fun r => none,
  owns := [],
  trim := [],
  res := [] }
theorem lback.eq {R : Type} (key : (List Int)) (plain : (List Int)) (sealed : (List Int)) (k : GRes → Option R) : arun Try.prog lback.G lback.an 0 Try.f4 (lback.st (key, plain, sealed)).1 (lback.st (key, plain, sealed)).2 k =
  obind (small9.call ()) fun x1 =>
  sel ((igt (((List.length plain) : Nat) : Int) (1000 : Int))) (
   k (lback.out x1)) (
   sel ((igt (((List.length sealed) : Nat) : Int) (1000 : Int))) (
    k (lback.out x1)) (
    obind (sseal.call (key, plain)) fun x2 =>
    obind (sopen.call (key, x2)) fun x3 =>
    obind (sopen.call (key, sealed)) fun x4 =>
    sel (x4.2.1) (
     sel (decide (0 = 0 ∧ (0 + x4.1) ≤ (List.length x4.2.2))) (
     obind (sseal.call (key, (cut x4.2.2 0 x4.1))) fun x5 =>
     sel ((sne (strOfBytes x5) (strOfBytes sealed))) (
      k (lback.out false)) (
      sel (x1) (
       sel (x3.2.1) (
        sel (decide (0 = 0 ∧ (0 + x3.1) ≤ (List.length x3.2.2))) (
        sel ((seq (strOfBytes (cut x3.2.2 0 x3.1)) (strOfBytes plain))) (
         sel ((ieq (((List.length x2) : Nat) : Int) (iadd .i64 (((List.length plain) : Nat) : Int) (8 : Int)))) (
          sel (x4.2.1) (
           k (lback.out true)) (
           k (lback.out (ieq ((x4.1 : Nat) : Int) (0 : Int))))) (
          k (lback.out false))) (
         k (lback.out false))) none) (
        k (lback.out false))) (
       k (lback.out false)))) none) (
     sel (x1) (
      sel (x3.2.1) (
       sel (decide (0 = 0 ∧ (0 + x3.1) ≤ (List.length x3.2.2))) (
       sel ((seq (strOfBytes (cut x3.2.2 0 x3.1)) (strOfBytes plain))) (
        sel ((ieq (((List.length x2) : Nat) : Int) (iadd .i64 (((List.length plain) : Nat) : Int) (8 : Int)))) (
         sel (x4.2.1) (
          k (lback.out true)) (
          k (lback.out (ieq ((x4.1 : Nat) : Int) (0 : Int))))) (
         k (lback.out false))) (
        k (lback.out false))) none) (
       k (lback.out false))) (
      k (lback.out false))))) := by kernel_rfl


/-- What is opened is sealed again to what it was. -/
theorem sld_opn {key b : List Int} (h : opn key b = true) (hb : Bytes b) : sld key (ov key (b.take (b.length - 8))) = b := by
  have h : 8 ≤ b.length ∧ b.length ≤ 65544 ∧ mk8 key (b.take (b.length - 8)) = b.drop (b.length - 8) := of_decide_eq_true h
  unfold sld
  rw [ov_ov (bytes_take _ hb), h.2.2, List.take_append_drop]
theorem sne_bytes {x y : List Int} (h : x = y) : sne (strOfBytes x) (strOfBytes y) = false := by
  subst h
  simp [sne]
theorem seq_self (x : ByteArray) : seq x x = true := by rw [seq_data]; simp
theorem opn_len {key b : List Int} (h : opn key b = true) : 8 ≤ b.length ∧ b.length ≤ 65544 := by
  have h : 8 ≤ b.length ∧ b.length ≤ 65544 ∧ mk8 key (b.take (b.length - 8)) = b.drop (b.length - 8) := of_decide_eq_true h
  exact ⟨h.1, h.2.1⟩
theorem lback.ok : ∀ d, lback.Pre d → arun Try.prog lback.G lback.an 0 Try.f4 (lback.st d).1 (lback.st d).2 some = some (lback.out (lback.add d (lback.F d))) := by
  rintro ⟨key, a, b⟩ ⟨hk, ha, hb⟩
  have hk : key.length = 32 := hk
  have e1 : small9.add () (small9.F ()) = true := rfl
  rw [lback.eq, small9.run trivial, e1]
  simp only [obind_some]
  by_cases h1 : 1000 < a.length
  · rw [igt_true (by omega)]; rfl
  rw [igt_false (by omega), sel_false]
  by_cases h2 : 1000 < b.length
  · rw [igt_true (by omega)]; rfl
  rw [igt_false (by omega), sel_false]
  have p1 : sseal.Pre (key, a) := hk
  have p2 : sopen.Pre (key, sld key a) := ⟨hk, by show (sld _ _).length ≤ _; rw [sld_length]; omega⟩
  have p3 : sopen.Pre (key, b) := ⟨hk, by show b.length ≤ _; omega⟩
  have c1 : cut a 0 a.length = a := cut_all _ _ (Nat.le_refl _)
  have q1 : iadd .i64 ((a.length : Nat) : Int) 8 = ((a.length + 8 : Nat) : Int) := by rw [iadd_i64 (by omega) (by omega)]; omega
  by_cases h : opn key b = true
  · obtain ⟨l1, l2⟩ := opn_len h
    have p4 : sseal.Pre (key, ov key (b.take (b.length - 8))) := hk
    have l3 : (ov key (b.take (b.length - 8))).length = b.length - 8 := by rw [ov_length, List.length_take]; omega
    have c2 : cut (ov key (b.take (b.length - 8))) 0 (b.length - 8) = ov key (b.take (b.length - 8)) := cut_all _ _ (by omega)
    simp only [sseal.run p1, obind_some, sseal_add (show a.length ≤ 65536 by omega), sopen.run p2, sopen_sld ha (show a.length ≤ 65536 by omega), sopen.run p3, sopen_of h, sel_true, c2, sseal.run p4, sseal_add (show (ov key (b.take (b.length - 8))).length ≤ 65536 by omega),
      sld_opn h hb, sne_bytes rfl, sel_false, c1, seq_self, sld_length, q1, l3, ieq_true rfl]
    rw [dec_true ⟨trivial, by omega⟩, dec_true ⟨trivial, by omega⟩]
    rfl
  · have h : opn key b = false := by simpa using h
    simp only [sseal.run p1, obind_some, sseal_add (show a.length ≤ 65536 by omega), sopen.run p2, sopen_sld ha (show a.length ≤ 65536 by omega), sopen.run p3, sopen_not h, sel_true, sel_false, c1, seq_self, sld_length, q1, ieq_true rfl]
    rw [dec_true ⟨trivial, by omega⟩]
    rfl

theorem lback.inj : ∀ d d', lback.st d = lback.st d' → d = d' := fun (key, plain, sealed) (key', plain', sealed') hEq => by
  have e0 : key = key' := d_inj (t := (.arr 32 (.int .u8))) (congrArg (fun s : List AVal × List Ent => (s.1.getD 0 .undef)) hEq)
  have e1 : plain = plain' := d_inj (t := (.slice (.int .u8))) (congrArg (fun s : List AVal × List Ent => (s.1.getD 1 .undef)) hEq)
  have e2 : sealed = sealed' := d_inj (t := (.slice (.int .u8))) (congrArg (fun s : List AVal × List Ent => (s.1.getD 2 .undef)) hEq)
  rw [e0, e1, e2]
noncomputable def lback.E : Entry := Entry.of [some (.arr 32 (.int .u8)), some (.slice (.int .u8)), some (.slice (.int .u8))] lback.st lback.Pre (fun d => lback.add d (lback.F d)) lback.out
noncomputable def lback.call : lback.D → Option lback.X := fun d => lback.E.run (lback.st d).1 (lback.st d).2
theorem lback.run {d : lback.D} (h : lback.Pre d) : lback.call d = some (lback.add d (lback.F d)) := Entry.of_run lback.inj h
theorem lback.does : Does Try.prog 4 lback.E := Does.of (by kernel_rfl) (show Sound _ lback.G from Sound.cons small9.does (Sound.cons sseal.does (Sound.cons sopen.does (Sound.nil _)))) (by kernel_rfl) (by kernel_rfl) (by kernel_rfl) (LOk.fn 0 (by kernel_rfl) trivial) lback.ok

end Go.Ab
