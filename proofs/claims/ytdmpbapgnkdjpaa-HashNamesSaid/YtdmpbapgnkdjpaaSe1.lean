/-
  Made by a program of mine (wip/gen), and by hand.
-/
import Derived.Test.YtdmpbapgnkdjpaaHa6
namespace Go.Ab
open Go.Proofs
set_option maxRecDepth 100000
set_option linter.unusedVariables false
set_option linter.unusedSimpArgs false

/-! ### corsned/seal.sums$1 -/
abbrev sums1.D := Int × (List Int)
def sums1.st : sums1.D → List AVal × List Ent := fun (o0, o1) => ([.ptr (.old 0) 0 [] 0, .ptr (.old 1) 0 [] 0], [.obj 0 false (.d (.int .u64) o0), .obj 0 true (.d (.arr 32 (.int .u8)) o1)])
abbrev sums1.Y := (List Int) × Int
abbrev sums1.X := ((List Int)) × ((List Int) × Int)
def sums1.out : sums1.X → GRes := fun x => ⟨.d (.arr 32 (.int .u8)) x.2.1, [.obj 0 false (.d (.int .u64) x.2.2), .obj 0 true (.d (.arr 32 (.int .u8)) x.1)], []⟩
def sums1.add : sums1.D → sums1.Y → sums1.X := fun (o0, o1) y => (o1, y)


/-- 'stream' -/
def sname : List Int := [115, 116, 114, 101, 97, 109]
def smA (key : List Int) (i : Int) : List Int := tag sname [key, be8 i]
def sums1.Pre : sums1.D → Prop := fun (o, key) => key.length = 32 ∧ 0 ≤ o ∧ o < 4294967296
def sums1.F : sums1.D → sums1.Y := fun (o, key) => (smA key o, o + 1)

noncomputable def sums1.G : Gam := gcons 20 anyArgs htag.E (gnil)
noncomputable def sums1.an : Ann := {
  objs := [],
  loops := fun r => bif Nat.beq r 3 then { keep := [0, 1, 2, 3, 5], sites := [2, 3, 22], frz := [], data := [], owns := [] } else { keep := [], sites := [], frz := [], data := [], owns := [] },
  outs := fun r b => bif Nat.beq r 3 then (bif b then { keep := [2], sites := [2, 3, 22], frz := [], data := [], owns := [] } else { keep := [0, 1, 2, 3], sites := [2, 3, 22], frz := [], data := [], owns := [] }) else { keep := [], sites := [], frz := [], data := [], owns := [] },
  sums := fun r => none,
  owns := [],
  trim := [],
  res := [] }
theorem sums1.eq {R : Type} (o0 : Int) (o1 : (List Int)) (k : GRes → Option R) : arun Try.prog sums1.G sums1.an 10 Try.f48 (sums1.st (o0, o1)).1 (sums1.st (o0, o1)).2 k =
  sel (decide (some 32 = some (List.length o1) ∧ 0 = 0)) (
  sel (decide (0 = 0 ∧ 32 ≤ (List.length o1))) (
  obind (htag.call ((⟨#[115, 116, 114, 101, 97, 109]⟩ : ByteArray), [(cut o1 0 32), [(icv .u8 (ishr .u64 o0 (56 : Int))), (icv .u8 (ishr .u64 o0 (48 : Int))), (icv .u8 (ishr .u64 o0 (40 : Int))), (icv .u8 (ishr .u64 o0 (32 : Int))), (icv .u8 (ishr .u64 o0 (24 : Int))), (icv .u8 (ishr .u64 o0 (16 : Int))), (icv .u8 (ishr .u64 o0 (8 : Int))), (icv .u8 (ishr .u64 o0 (0 : Int)))]])) fun x1 =>
  k (sums1.out (o1, (x1, (iadd .u64 o0 (1 : Int)))))) none) none := by kernel_rfl


theorem ulong_byte (n : Int) (k : Int) (h0 : 0 ≤ k) (h1 : k ≤ 64) : icv .u8 (ishr .u64 n k) = n / 2 ^ k.toNat % 256 := long_byte n k h0 h1
theorem be8_equ (n : Int) : [icv .u8 (ishr .u64 n 56), icv .u8 (ishr .u64 n 48), icv .u8 (ishr .u64 n 40), icv .u8 (ishr .u64 n 32), icv .u8 (ishr .u64 n 24), icv .u8 (ishr .u64 n 16), icv .u8 (ishr .u64 n 8), icv .u8 (ishr .u64 n 0)] = be8 n := be8_eq n
theorem cut_all {α : Type} (l : List α) (n : Nat) (h : l.length ≤ n) : cut l 0 n = l := by
  unfold cut
  rw [List.drop_zero, List.take_of_length_le h]
theorem sums1.ok : ∀ d, sums1.Pre d → arun Try.prog sums1.G sums1.an 10 Try.f48 (sums1.st d).1 (sums1.st d).2 some = some (sums1.out (sums1.add d (sums1.F d))) := by
  rintro ⟨o, key⟩ ⟨hk, h0, h1⟩
  have hk : key.length = 32 := hk
  have e1 : iadd .u64 o 1 = o + 1 := by
    unfold iadd
    rw [wrap_u64, vw_ofInt]
    omega
  rw [sums1.eq, be8_equ, e1, cut_all key 32 (by omega)]
  have p : htag.Pre ((⟨#[115, 116, 114, 101, 97, 109]⟩ : ByteArray), [key, be8 o]) := by
    show (tagb _ [key, be8 o]).length ≤ _
    rw [tagb]
    simp only [tagp, List.flatMap_cons, List.flatMap_nil, List.length_append, be8_length, bytesOfStr_length, List.append_nil]
    show 8 + 6 + _ ≤ _
    omega
  rw [htag.run p, dec_true ⟨by rw [hk], rfl⟩, dec_true ⟨rfl, by omega⟩]
  rfl

theorem sums1.inj : ∀ d d', sums1.st d = sums1.st d' → d = d' := fun (o0, o1) (o0', o1') hEq => by
  have e0 : o0 = o0' := d_inj (t := (.int .u64)) (congrArg (fun s : List AVal × List Ent => (entD (s.2.getD 0 .dead))) hEq)
  have e1 : o1 = o1' := d_inj (t := (.arr 32 (.int .u8))) (congrArg (fun s : List AVal × List Ent => (entD (s.2.getD 1 .dead))) hEq)
  rw [e0, e1]
noncomputable def sums1.E : Entry := Entry.of [none, none] sums1.st sums1.Pre (fun d => sums1.add d (sums1.F d)) sums1.out
noncomputable def sums1.call : sums1.D → Option sums1.X := fun d => sums1.E.run (sums1.st d).1 (sums1.st d).2
theorem sums1.run {d : sums1.D} (h : sums1.Pre d) : sums1.call d = some (sums1.add d (sums1.F d)) := Entry.of_run sums1.inj h
theorem sums1.does : Does Try.prog 48 sums1.E := Does.of (by kernel_rfl) (show Sound _ sums1.G from Sound.cons htag.does (Sound.nil _)) (by kernel_rfl) (by kernel_rfl) (by kernel_rfl) (LOk.fn 1 (by kernel_rfl) (And.intro (LDo.none (by kernel_rfl)) trivial)) sums1.ok

/-! ### corsned/seal.sums -/
abbrev sums.D := (List Int)
def sums.st : sums.D → List AVal × List Ent := fun key => ([.d (.arr 32 (.int .u8)) key], [])
abbrev sums.Y := Unit
abbrev sums.X := (List Int)
def sums.out : sums.X → GRes := fun x => ⟨.fn 48 (.cons (.ptr (.new 0 0) 0 [] 0) (.cons (.ptr (.new 0 1) 0 [] 0) (.nil))), [], [.obj 0 false (.d (.int .u64) (0 : Int)), .obj 0 false (.d (.arr 32 (.int .u8)) x)]⟩
def sums.add : sums.D → sums.Y → sums.X := fun key y => key


def sums.Pre : sums.D → Prop := fun key => True
def sums.F : sums.D → sums.Y := fun _ => ()

noncomputable def sums.G : Gam := gnil
noncomputable def sums.an : Ann := {
  objs := [1],
  loops := fun r => { keep := [], sites := [], frz := [], data := [], owns := [] },
  outs := fun r b => { keep := [], sites := [], frz := [], data := [], owns := [] },
  sums := fun r => none,
  owns := [],
  trim := [],
  res := [] }
theorem sums.eq {R : Type} (key : (List Int)) (k : GRes → Option R) : arun Try.prog sums.G sums.an 0 Try.f34 (sums.st key).1 (sums.st key).2 k =
  k (sums.out key) := by kernel_rfl


theorem sums.ok : ∀ d, sums.Pre d → arun Try.prog sums.G sums.an 0 Try.f34 (sums.st d).1 (sums.st d).2 some = some (sums.out (sums.add d (sums.F d))) := by
  intro key _
  rw [sums.eq]
  rfl

theorem sums.inj : ∀ d d', sums.st d = sums.st d' → d = d' := fun key key' hEq => by
  have e0 : key = key' := d_inj (t := (.arr 32 (.int .u8))) (congrArg (fun s : List AVal × List Ent => (s.1.getD 0 .undef)) hEq)
  rw [e0]
noncomputable def sums.E : Entry := Entry.of [some (.arr 32 (.int .u8))] sums.st sums.Pre (fun d => sums.add d (sums.F d)) sums.out
noncomputable def sums.call : sums.D → Option sums.X := fun d => sums.E.run (sums.st d).1 (sums.st d).2
theorem sums.run {d : sums.D} (h : sums.Pre d) : sums.call d = some (sums.add d (sums.F d)) := Entry.of_run sums.inj h
theorem sums.does : Does Try.prog 34 sums.E := Does.of (by kernel_rfl) (show Sound _ sums.G from Sound.nil _) (by kernel_rfl) (by kernel_rfl) (by kernel_rfl) (LOk.fn 0 (by kernel_rfl) trivial) sums.ok

end Go.Ab
