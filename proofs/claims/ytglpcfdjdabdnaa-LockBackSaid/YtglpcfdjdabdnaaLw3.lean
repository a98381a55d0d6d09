/-
  Made by a program of mine (wip/gen), and by hand.
-/
import Derived.Test.YtglpcfdjdabdnaaLw2
namespace Go.Ab
open Go.Proofs
set_option maxRecDepth 100000
set_option linter.unusedVariables false
set_option linter.unusedSimpArgs false


theorem baseP_u (k : Int) : U64 (baseP k) := (pw_ok _ _).u
theorem signQ_u (k : Int) (m : List Int) : SgU (signQ k m) := by
  unfold signQ
  split
  · exact ⟨(sumP_ok _).u, (addQ_ok _ _).u⟩
  · exact ⟨⟨Int.le_refl 0, by decide⟩, Int.le_refl 0, by decide⟩
theorem signedW_u (br : Int) (ks : List Int) (m : List Int) (s : Int) (hs : U64 s) : WitU (signedW br ks m s) :=
  ⟨fun x hx => by
    have hx : x ∈ ks.map fun k => signQ k m := hx
    obtain ⟨k, _, rfl⟩ := List.mem_map.1 hx
    exact signQ_u k m, hs⟩
def stL (a b : Int) : Lk := ([([a, b], 9, 0, 16, ())], ())
def emptyW : Wit := (1, [], 0, ())
def mT : List Int := [152, 45, 158, 62, 185, 150, 245, 89, 230, 51, 244, 209, 148, 222, 243, 118, 29, 144, 159, 90, 59, 100, 125, 26, 133, 31, 234, 214, 124, 50, 201, 209]
theorem mT_eq : sha [116, 101, 120, 116] = mT := by decide +kernel
theorem a_eq : baseP 3 = 64 := by decide +kernel
theorem b_eq : baseP 5 = 1024 := by decide +kernel
theorem s3 : signQ 3 mT = (2066670005889522986, 1913675330412042729, ()) := by decide +kernel
theorem s5 : signQ 5 mT = (1601457595092860225, 1871270319440231866, ()) := by decide +kernel
theorem W3 (br s : Int) : signedW br [3] mT s = (br, [(2066670005889522986, 1913675330412042729, ())], s, ()) := by show (br, [signQ 3 mT], s, ()) = _; rw [s3]
theorem W5 (br s : Int) : signedW br [5] mT s = (br, [(1601457595092860225, 1871270319440231866, ())], s, ()) := by show (br, [signQ 5 mT], s, ()) = _; rw [s5]
theorem W35 (br s : Int) : signedW br [3, 5] mT s = (br, [(2066670005889522986, 1913675330412042729, ()), (1601457595092860225, 1871270319440231866, ())], s, ()) := by show (br, [signQ 3 mT, signQ 5 mT], s, ()) = _; rw [s3, s5]
theorem small12_facts : ∃ (m : List Int) (a b : Int), sha [116, 101, 120, 116] = m ∧ baseP 3 = a ∧ baseP 5 = b ∧
    openL (lateL a b 7) (signedW 1 [3] m 0) m 0 6 = 11 ∧ openL (lateL a b 7) (signedW 1 [3] m 0) m 0 7 = 0 ∧ openL (lateL a b 7) (signedW 0 [5] m 0) m 0 0 = 0 ∧
    openL (lateL a b 7) (signedW 0 [3] m 0) m 0 9 = 7 ∧ openL (lateL a b 7) (signedW 2 [] m 0) m 0 9 = 1 ∧
    openL (stL a b) (signedW 0 [3, 5] m 2) m 9 0 = 0 ∧ openL (stL a b) (signedW 0 [3, 5] m 2) m 8 0 = 11 ∧ openL (stL a b) (signedW 0 [3, 5] m 3) m 9 0 = 23 ∧ openL (stL a b) (signedW 0 [3] m 2) m 9 0 = 7 ∧
    openL (anchorL a) emptyW m 0 16 = 0 ∧ openL (anchorL a) emptyW m 0 15 = 11 ∧ lkOk (stL a b) = true ∧ lkOk (allL [a, b]) = true :=
  ⟨mT, 64, 1024, mT_eq, a_eq, b_eq, by rw [W3]; decide +kernel, by rw [W3]; decide +kernel, by rw [W5]; decide +kernel, by rw [W3]; decide +kernel, by decide +kernel, by rw [W35]; decide +kernel, by rw [W35]; decide +kernel, by rw [W35]; decide +kernel, by rw [W3]; decide +kernel,
    by decide +kernel, by decide +kernel, by decide +kernel, by decide +kernel⟩
theorem lk2 : lkOk (allL [2]) = false := by decide +kernel
theorem lk4 : lkOk (allL [4]) = true := by decide +kernel
theorem lk0 : lkOk ([], ()) = false := by decide +kernel
theorem lkB4 : lkB (allL [4]) = [1, 1, 0, 0, 0, 0, 0, 0, 0, 4, 0, 0, 0, 0, 0, 0, 0, 0, 0, 0] := by decide +kernel
theorem beqL_self : ∀ l : List Int, listBeq (fun (x y : Int) => x == y) l l = true
  | [] => rfl
  | x :: l => by rw [listBeq, beqL_self l]; simp
theorem beq32 (l : List Int) : Ty.beq (.arr 32 (.int .u8)) l l = true := beqL_self l
theorem seq_same (s : ByteArray) : seq s s = true := by simp [seq]

/-! ### corsned/corsnedlaw12.small -/
abbrev small12.JS9.X := Int × Int × Bool × (List Int) × ((List ((List Int) × (Int × (Int × (Int × Unit))))) × Unit)
def small12.JS9.st : small12.JS9.X → AS := fun (a, b, one, n1, n5) => ⟨([.undef, .ptr (.new 1 0) 0 [] 0, .d (.int .u64) a, .d (.int .u64) b, .undef, .ptr (.new 5 0) 0 [] 0, .undef, .undef, .d .bool one] ++ undN 156 []), [], ([[], [.obj 0 false (.d (.arr 32 (.int .u8)) n1)], [], [], [], [.obj 0 false (.d (.pair (.slice (.pair (.slice (.int .u64)) (.pair (.int .i64) (.pair (.int .i64) (.pair (.int .u64) .unit))))) .unit) n5)]] ++ nilN 159 [])⟩
noncomputable def small12.JS9.J : Join := Join.of { keep := [1, 2, 3, 5, 8], sites := [1, 5], frz := [], data := [], owns := [] } small12.JS9.st
noncomputable def small12.JS9.fin : small12.JS9.X → Option small12.JS9.X := fun x => (small12.JS9.J).inn .normal (small12.JS9.st x)
theorem small12.JS9.inj : ∀ d d', small12.JS9.st d = small12.JS9.st d' → d = d' := fun (a, b, one, n1, n5) (a', b', one', n1', n5') hEq => by
  have e0 : a = a' := d_inj (t := (.int .u64)) (congrArg (fun s : AS => (s.slot 2)) hEq)
  have e1 : b = b' := d_inj (t := (.int .u64)) (congrArg (fun s : AS => (s.slot 3)) hEq)
  have e2 : one = one' := d_inj (t := .bool) (congrArg (fun s : AS => (s.slot 8)) hEq)
  have e3 : n1 = n1' := d_inj (t := (.arr 32 (.int .u8))) (congrArg (fun s : AS => (entC (s.ent (.new 1 0)))) hEq)
  have e4 : n5 = n5' := d_inj (t := (.pair (.slice (.pair (.slice (.int .u64)) (.pair (.int .i64) (.pair (.int .i64) (.pair (.int .u64) .unit))))) .unit)) (congrArg (fun s : AS => (entC (s.ent (.new 5 0)))) hEq)
  rw [e0, e1, e2, e3, e4]
theorem small12.JS9.fin_eq (x : small12.JS9.X) : small12.JS9.fin x = some x := Join.of_inn small12.JS9.inj x
abbrev small12.JS10.X := Int × Int × Bool × Bool × (List Int) × ((List ((List Int) × (Int × (Int × (Int × Unit))))) × Unit)
def small12.JS10.st : small12.JS10.X → AS := fun (a, b, one, two, n1, n5) => ⟨([.undef, .ptr (.new 1 0) 0 [] 0, .d (.int .u64) a, .d (.int .u64) b, .undef, .ptr (.new 5 0) 0 [] 0, .undef, .undef, .d .bool one, .d .bool two] ++ undN 155 []), [], ([[], [.obj 0 false (.d (.arr 32 (.int .u8)) n1)], [], [], [], [.obj 0 false (.d (.pair (.slice (.pair (.slice (.int .u64)) (.pair (.int .i64) (.pair (.int .i64) (.pair (.int .u64) .unit))))) .unit) n5)]] ++ nilN 159 [])⟩
noncomputable def small12.JS10.J : Join := Join.of { keep := [1, 2, 3, 5, 8, 9], sites := [1, 5], frz := [], data := [], owns := [] } small12.JS10.st
noncomputable def small12.JS10.fin : small12.JS10.X → Option small12.JS10.X := fun x => (small12.JS10.J).inn .normal (small12.JS10.st x)
theorem small12.JS10.inj : ∀ d d', small12.JS10.st d = small12.JS10.st d' → d = d' := fun (a, b, one, two, n1, n5) (a', b', one', two', n1', n5') hEq => by
  have e0 : a = a' := d_inj (t := (.int .u64)) (congrArg (fun s : AS => (s.slot 2)) hEq)
  have e1 : b = b' := d_inj (t := (.int .u64)) (congrArg (fun s : AS => (s.slot 3)) hEq)
  have e2 : one = one' := d_inj (t := .bool) (congrArg (fun s : AS => (s.slot 8)) hEq)
  have e3 : two = two' := d_inj (t := .bool) (congrArg (fun s : AS => (s.slot 9)) hEq)
  have e4 : n1 = n1' := d_inj (t := (.arr 32 (.int .u8))) (congrArg (fun s : AS => (entC (s.ent (.new 1 0)))) hEq)
  have e5 : n5 = n5' := d_inj (t := (.pair (.slice (.pair (.slice (.int .u64)) (.pair (.int .i64) (.pair (.int .i64) (.pair (.int .u64) .unit))))) .unit)) (congrArg (fun s : AS => (entC (s.ent (.new 5 0)))) hEq)
  rw [e0, e1, e2, e3, e4, e5]
theorem small12.JS10.fin_eq (x : small12.JS10.X) : small12.JS10.fin x = some x := Join.of_inn small12.JS10.inj x
abbrev small12.JS11.X := Int × Int × Bool × Bool × Bool × ((List ((List Int) × (Int × (Int × (Int × Unit))))) × Unit)
def small12.JS11.st : small12.JS11.X → AS := fun (a, b, one, two, three, n5) => ⟨([.undef, .undef, .d (.int .u64) a, .d (.int .u64) b, .undef, .ptr (.new 5 0) 0 [] 0, .undef, .undef, .d .bool one, .d .bool two, .d .bool three] ++ undN 154 []), [], (nilN 5 ([[.obj 0 false (.d (.pair (.slice (.pair (.slice (.int .u64)) (.pair (.int .i64) (.pair (.int .i64) (.pair (.int .u64) .unit))))) .unit) n5)]] ++ nilN 159 []))⟩
noncomputable def small12.JS11.J : Join := Join.of { keep := [2, 3, 5, 8, 9, 10], sites := [5], frz := [], data := [], owns := [] } small12.JS11.st
noncomputable def small12.JS11.fin : small12.JS11.X → Option small12.JS11.X := fun x => (small12.JS11.J).inn .normal (small12.JS11.st x)
theorem small12.JS11.inj : ∀ d d', small12.JS11.st d = small12.JS11.st d' → d = d' := fun (a, b, one, two, three, n5) (a', b', one', two', three', n5') hEq => by
  have e0 : a = a' := d_inj (t := (.int .u64)) (congrArg (fun s : AS => (s.slot 2)) hEq)
  have e1 : b = b' := d_inj (t := (.int .u64)) (congrArg (fun s : AS => (s.slot 3)) hEq)
  have e2 : one = one' := d_inj (t := .bool) (congrArg (fun s : AS => (s.slot 8)) hEq)
  have e3 : two = two' := d_inj (t := .bool) (congrArg (fun s : AS => (s.slot 9)) hEq)
  have e4 : three = three' := d_inj (t := .bool) (congrArg (fun s : AS => (s.slot 10)) hEq)
  have e5 : n5 = n5' := d_inj (t := (.pair (.slice (.pair (.slice (.int .u64)) (.pair (.int .i64) (.pair (.int .i64) (.pair (.int .u64) .unit))))) .unit)) (congrArg (fun s : AS => (entC (s.ent (.new 5 0)))) hEq)
  rw [e0, e1, e2, e3, e4, e5]
theorem small12.JS11.fin_eq (x : small12.JS11.X) : small12.JS11.fin x = some x := Join.of_inn small12.JS11.inj x
abbrev small12.D := Unit
def small12.st : small12.D → List AVal × List Ent := fun _ => ([], [])
abbrev small12.Y := Bool
abbrev small12.X := Bool
def small12.out : small12.X → GRes := fun x => ⟨.d .bool x, [], []⟩
def small12.add : small12.D → small12.Y → small12.X := fun _ y => y


def small12.Pre : small12.D → Prop := fun _ => True
def small12.F : small12.D → small12.Y := fun _ => true

noncomputable def small12.G : Gam := gcons 31 anyArgs hsum.E (gcons 12 anyArgs pbase.E (gcons 19 anyArgs llate.E (gcons 13 anyArgs wsigned.E (gcons 10 anyArgs lopen.E (gcons 20 anyArgs lanchor.E (gcons 14 anyArgs lright.E (gcons 16 anyArgs lkey.E (gcons 17 anyArgs lboth.E (gcons 21 anyArgs lbytes.E (gcons 27 anyArgs lsum.E (gcons 28 anyArgs htag.E (gnil))))))))))))
noncomputable def small12.an : Ann := {
  objs := [11],
  loops := fun r => { keep := [], sites := [], frz := [], data := [], owns := [] },
  outs := fun r b => { keep := [], sites := [], frz := [], data := [], owns := [] },
  sums := fun r => none,
  owns := [],
  trim := [],
  res := [],
  joinS := fun r => bif Nat.beq r 9 then some small12.JS9.J else bif Nat.beq r 10 then some small12.JS10.J else bif Nat.beq r 11 then some small12.JS11.J else none }
theorem small12.eq {R : Type}  (k : GRes → Option R) : arun Try.prog small12.G small12.an 0 Try.f8 (small12.st ()).1 (small12.st ()).2 k =
  obind (hsum.call [(116 : Int), (101 : Int), (120 : Int), (116 : Int)]) fun x4 =>
  obind (pbase.call (3 : Int)) fun x8 =>
  obind (pbase.call (5 : Int)) fun x12 =>
  obind (llate.call (x8, x12, (7 : Int))) fun x16 =>
  obind (wsigned.call ((1 : Int), [(3 : Int)], x4, (0 : Int))) fun x20 =>
  obind (wsigned.call ((0 : Int), [(5 : Int)], x4, (0 : Int))) fun x24 =>
  obind (
   obind (lopen.call (x16, x20, x4, (0 : Int), (6 : Int))) fun x46 =>
   sel ((ieq x46 (11 : Int))) (
    obind (lopen.call (x16, x20, x4, (0 : Int), (7 : Int))) fun x47 =>
    sel ((ieq x47 (0 : Int))) (
     obind (lopen.call (x16, x24, x4, (0 : Int), (0 : Int))) fun x48 =>
     sel ((ieq x48 (0 : Int))) (
      obind (wsigned.call ((0 : Int), [(3 : Int)], x4, (0 : Int))) fun x49 =>
      obind (lopen.call (x16, x49, x4, (0 : Int), (9 : Int))) fun x50 =>
      sel ((ieq x50 (7 : Int))) (
       obind (wsigned.call ((2 : Int), ([] : List Int), x4, (0 : Int))) fun x51 =>
       obind (lopen.call (x16, x51, x4, (0 : Int), (9 : Int))) fun x52 =>
       small12.JS9.fin (x8, x12, (ieq x52 (1 : Int)), x4, ([([x8, x12], ((9 : Int), ((0 : Int), ((16 : Int), ()))))], ()))) (
       small12.JS9.fin (x8, x12, false, x4, ([([x8, x12], ((9 : Int), ((0 : Int), ((16 : Int), ()))))], ())))) (
      small12.JS9.fin (x8, x12, false, x4, ([([x8, x12], ((9 : Int), ((0 : Int), ((16 : Int), ()))))], ())))) (
     small12.JS9.fin (x8, x12, false, x4, ([([x8, x12], ((9 : Int), ((0 : Int), ((16 : Int), ()))))], ())))) (
    small12.JS9.fin (x8, x12, false, x4, ([([x8, x12], ((9 : Int), ((0 : Int), ((16 : Int), ()))))], ())))) fun x53 =>
  obind (
   obind (wsigned.call ((0 : Int), [(3 : Int), (5 : Int)], x53.2.2.2.1, (2 : Int))) fun x78 =>
   obind (lopen.call (x53.2.2.2.2, x78, x53.2.2.2.1, (9 : Int), (0 : Int))) fun x79 =>
   sel ((ieq x79 (0 : Int))) (
    obind (wsigned.call ((0 : Int), [(3 : Int), (5 : Int)], x53.2.2.2.1, (2 : Int))) fun x80 =>
    obind (lopen.call (x53.2.2.2.2, x80, x53.2.2.2.1, (8 : Int), (0 : Int))) fun x81 =>
    sel ((ieq x81 (11 : Int))) (
     obind (wsigned.call ((0 : Int), [(3 : Int), (5 : Int)], x53.2.2.2.1, (3 : Int))) fun x82 =>
     obind (lopen.call (x53.2.2.2.2, x82, x53.2.2.2.1, (9 : Int), (0 : Int))) fun x83 =>
     sel ((ieq x83 (23 : Int))) (
      obind (wsigned.call ((0 : Int), [(3 : Int)], x53.2.2.2.1, (2 : Int))) fun x84 =>
      obind (lopen.call (x53.2.2.2.2, x84, x53.2.2.2.1, (9 : Int), (0 : Int))) fun x85 =>
      small12.JS10.fin (x53.1, x53.2.1, x53.2.2.1, (ieq x85 (7 : Int)), x53.2.2.2.1, x53.2.2.2.2)) (
      small12.JS10.fin (x53.1, x53.2.1, x53.2.2.1, false, x53.2.2.2.1, x53.2.2.2.2))) (
     small12.JS10.fin (x53.1, x53.2.1, x53.2.2.1, false, x53.2.2.2.1, x53.2.2.2.2))) (
    small12.JS10.fin (x53.1, x53.2.1, x53.2.2.1, false, x53.2.2.2.1, x53.2.2.2.2))) fun x86 =>
  obind (
   obind (lanchor.call x86.1) fun x99 =>
   obind (lopen.call (x99, ((1 : Int), (([] : List (Int × (Int × Unit))), ((0 : Int), ()))), x86.2.2.2.2.1, (0 : Int), (16 : Int))) fun x100 =>
   sel ((ieq x100 (0 : Int))) (
    obind (lanchor.call x86.1) fun x101 =>
    obind (lopen.call (x101, ((1 : Int), (([] : List (Int × (Int × Unit))), ((0 : Int), ()))), x86.2.2.2.2.1, (0 : Int), (15 : Int))) fun x102 =>
    small12.JS11.fin (x86.1, x86.2.1, x86.2.2.1, x86.2.2.2.1, (ieq x102 (11 : Int)), x86.2.2.2.2.2)) (
    small12.JS11.fin (x86.1, x86.2.1, x86.2.2.1, x86.2.2.2.1, false, x86.2.2.2.2.2))) fun x103 =>
  sel (x103.2.2.1) (
   sel (x103.2.2.2.1) (
    sel (x103.2.2.2.2.1) (
     obind (lright.call x103.2.2.2.2.2) fun x118 =>
     sel (x118) (
      obind (lkey.call (2 : Int)) fun x119 =>
      obind (lright.call x119) fun x120 =>
      sel ((!x120)) (
       obind (lright.call (([] : List ((List Int) × (Int × (Int × (Int × Unit))))), ())) fun x121 =>
       sel ((!x121)) (
        obind (lboth.call (x103.1, x103.2.1)) fun x122 =>
        obind (lright.call x122) fun x123 =>
        sel (x123) (
         obind (lkey.call (4 : Int)) fun x124 =>
         obind (lbytes.call x124) fun x125 =>
         sel ((seq (strOfBytes x125) (strOfBytes [(1 : Int), (1 : Int), (0 : Int), (0 : Int), (0 : Int), (0 : Int), (0 : Int), (0 : Int), (0 : Int), (4 : Int), (0 : Int), (0 : Int), (0 : Int), (0 : Int), (0 : Int), (0 : Int), (0 : Int), (0 : Int), (0 : Int), (0 : Int)]))) (
          obind (lkey.call (4 : Int)) fun x126 =>
          obind (lsum.call x126) fun x127 =>
          obind (lkey.call (4 : Int)) fun x128 =>
          obind (lbytes.call x128) fun x129 =>
          obind (htag.call ((⟨#[108, 111, 99, 107]⟩ : ByteArray), [x129])) fun x130 =>
          sel ((Ty.beq (.arr 32 (.int .u8)) x127 x130)) (
           obind (lsum.call (([] : List ((List Int) × (Int × (Int × (Int × Unit))))), ())) fun x131 =>
           k (small12.out (Ty.beq (.arr 32 (.int .u8)) x131 (List.replicate 32 (0 : Int))))) (
           k (small12.out false))) (
          k (small12.out false))) (
         k (small12.out false))) (
        k (small12.out false))) (
       k (small12.out false))) (
      k (small12.out false))) (
     k (small12.out false))) (
    k (small12.out false))) (
   k (small12.out false)) := by kernel_rfl


theorem small12.ok : ∀ d, small12.Pre d → arun Try.prog small12.G small12.an 0 Try.f8 (small12.st d).1 (small12.st d).2 some = some (small12.out (small12.add d (small12.F d))) := by
  rintro ⟨⟩ _
  obtain ⟨m, a, b, hm, ha, hb, f1, f2, f3, f4, f5, f6, f7, f8, f9, f10, f11, f12, f13⟩ := small12_facts
  have sm : Sm m := hm ▸ sm_sha _
  have ua : U64 a := by rw [← ha]; exact baseP_u 3
  have ub : U64 b := by rw [← hb]; exact baseP_u 5
  have u : ∀ n : Int, 0 ≤ n → n < 1000 → U64 n := fun n h1 h2 => ⟨h1, by omega⟩
  have k1 : ∀ x : Int, U64 x → KeysU [x] := fun x hx y hy => by
    simp only [List.mem_cons, List.not_mem_nil, or_false] at hy; rw [hy]; exact hx
  have k2 : ∀ x z : Int, U64 x → U64 z → KeysU [x, z] := fun x z hx hz y hy => by
    simp only [List.mem_cons, List.not_mem_nil, or_false] at hy; rcases hy with rfl | rfl <;> assumption
  have k0 : KeysU [] := fun y hy => by simp at hy
  have L1 : LkU (lateL a b 7) := fun x hx => by
    simp only [lateL, List.mem_cons, List.not_mem_nil, or_false] at hx
    rcases hx with rfl | rfl
    · exact ⟨k1 b ub, u 0 (by omega) (by omega)⟩
    · exact ⟨k1 a ua, u 0 (by omega) (by omega)⟩
  have L2 : LkU (stL a b) := fun x hx => by
    simp only [stL, List.mem_cons, List.not_mem_nil, or_false] at hx
    rw [hx]
    exact ⟨k2 a b ua ub, u 16 (by omega) (by omega)⟩
  have L3 : LkU (anchorL a) := fun x hx => by
    simp only [anchorL, List.mem_cons, List.not_mem_nil, or_false] at hx
    rcases hx with rfl | rfl
    · exact ⟨k1 a ua, u 0 (by omega) (by omega)⟩
    · exact ⟨k0, u 0 (by omega) (by omega)⟩
  have L4 : ∀ ks, KeysU ks → LkU (allL ks) := fun ks hk x hx => by
    simp only [allL, List.mem_cons, List.not_mem_nil, or_false] at hx
    rw [hx]
    exact ⟨hk, u 0 (by omega) (by omega)⟩
  have L5 : LkU (([], ()) : Lk) := fun x hx => by simp at hx
  have n2 : ∀ l : Lk, l.1.length ≤ 2 → l.1.length ≤ 1000000000 := fun l h => by omega
  have O : ∀ l w h t, LkU l → l.1.length ≤ 2 → WitU w → lopen.call (l, w, m, h, t) = some (openL l w m h t) := fun l w h t h1 h2 h3 => lopen.run (d := (l, w, m, h, t)) ⟨h1, n2 l h2, h3, sm⟩
  have W : ∀ br ks s, KeysU ks → ks.length ≤ 2 → wsigned.call (br, ks, m, s) = some (signedW br ks m s) := fun br ks s h1 h2 => wsigned.run (d := (br, ks, m, s)) ⟨h1, sm, by show ks.length ≤ 1000000; omega⟩
  have R : ∀ l, LkU l → l.1.length ≤ 2 → lright.call l = some (lkOk l) := fun l h1 h2 => lright.run (d := l) ⟨h1, n2 l h2⟩
  have B : ∀ l, LkU l → l.1.length ≤ 2 → lbytes.call l = some (lkB l) := fun l h1 h2 => lbytes.run (d := l) ⟨h1, n2 l h2⟩
  have S : ∀ l, LkU l → l.1.length ≤ 2 → lsum.call l = some (lkS l) := fun l h1 h2 => lsum.run (d := l) ⟨h1, n2 l h2⟩
  have u3 := u 3 (by omega) (by omega)
  have u5 := u 5 (by omega) (by omega)
  have c1 : hsum.call [116, 101, 120, 116] = some m := by rw [← hm]; exact hsum.run (d := [116, 101, 120, 116]) (by show [_, _, _, _].length ≤ _; simp only [List.length_cons, List.length_nil]; omega)
  have c2 : pbase.call 3 = some a := by rw [← ha]; exact pbase.run (d := 3) u3
  have c3 : pbase.call 5 = some b := by rw [← hb]; exact pbase.run (d := 5) u5
  have c4 : llate.call (a, b, 7) = some (lateL a b 7) := llate.run (d := (a, b, 7)) trivial
  have c5 : lanchor.call a = some (anchorL a) := lanchor.run (d := a) trivial
  have c6 : ∀ x, lkey.call x = some (allL [x]) := fun x => lkey.run (d := x) trivial
  have c7 : lboth.call (a, b) = some (allL [a, b]) := lboth.run (d := (a, b)) trivial
  have w1 := W 1 [3] 0 (k1 3 u3) (by simp)
  have w2 := W 0 [5] 0 (k1 5 u5) (by simp)
  have w3 := W 0 [3] 0 (k1 3 u3) (by simp)
  have w4 := W 2 [] 0 k0 (by simp)
  have w5 := W 0 [3, 5] 2 (k2 3 5 u3 u5) (by simp)
  have w6 := W 0 [3, 5] 3 (k2 3 5 u3 u5) (by simp)
  have w7 := W 0 [3] 2 (k1 3 u3) (by simp)
  have su : ∀ br ks s, 0 ≤ s → s < 1000 → WitU (signedW br ks m s) := fun br ks s h1 h2 => signedW_u br ks m s (u s h1 h2)
  have ew : WitU emptyW := ⟨fun x hx => by simp [emptyW] at hx, u 0 (by omega) (by omega)⟩
  have o1 := O (lateL a b 7) (signedW 1 [3] m 0) 0 6 L1 (by simp [lateL]) (su _ _ _ (by omega) (by omega))
  have o2 := O (lateL a b 7) (signedW 1 [3] m 0) 0 7 L1 (by simp [lateL]) (su _ _ _ (by omega) (by omega))
  have o3 := O (lateL a b 7) (signedW 0 [5] m 0) 0 0 L1 (by simp [lateL]) (su _ _ _ (by omega) (by omega))
  have o4 := O (lateL a b 7) (signedW 0 [3] m 0) 0 9 L1 (by simp [lateL]) (su _ _ _ (by omega) (by omega))
  have o5 := O (lateL a b 7) (signedW 2 [] m 0) 0 9 L1 (by simp [lateL]) (su _ _ _ (by omega) (by omega))
  have o6 := O (stL a b) (signedW 0 [3, 5] m 2) 9 0 L2 (by simp [stL]) (su _ _ _ (by omega) (by omega))
  have o7 := O (stL a b) (signedW 0 [3, 5] m 2) 8 0 L2 (by simp [stL]) (su _ _ _ (by omega) (by omega))
  have o8 := O (stL a b) (signedW 0 [3, 5] m 3) 9 0 L2 (by simp [stL]) (su _ _ _ (by omega) (by omega))
  have o9 := O (stL a b) (signedW 0 [3] m 2) 9 0 L2 (by simp [stL]) (su _ _ _ (by omega) (by omega))
  have o10 := O (anchorL a) emptyW 0 16 L3 (by simp [anchorL]) ew
  have o11 := O (anchorL a) emptyW 0 15 L3 (by simp [anchorL]) ew
  rw [f1] at o1
  rw [f2] at o2
  rw [f3] at o3
  rw [f4] at o4
  rw [f5] at o5
  rw [f6] at o6
  rw [f7] at o7
  rw [f8] at o8
  rw [f9] at o9
  rw [f10] at o10
  rw [f11] at o11
  have r1 := R (stL a b) L2 (by simp [stL])
  rw [f12] at r1
  have r2 := R (allL [2]) (L4 _ (k1 2 (u 2 (by omega) (by omega)))) (by simp [allL])
  rw [lk2] at r2
  have r3 := R ([], ()) L5 (by simp)
  rw [lk0] at r3
  have r4 := R (allL [a, b]) (L4 _ (k2 a b ua ub)) (by simp [allL])
  rw [f13] at r4
  have L6 : LkU (allL [4]) := L4 _ (k1 4 (u 4 (by omega) (by omega)))
  have b4 := B (allL [4]) L6 (by simp [allL])
  have s4 := S (allL [4]) L6 (by simp [allL])
  have s0 := S ([], ()) L5 (by simp)
  have t4 : htag.call ((⟨#[108, 111, 99, 107]⟩ : ByteArray), [lkB (allL [4])]) = some (lkS (allL [4])) := by
    rw [htag.run (d := ((⟨#[108, 111, 99, 107]⟩ : ByteArray), [lkB (allL [4])])) (tag_pre1 (by decide) (by have := lkB_len (allL [4]); omega)), lkS, lk4]
    rfl
  have s0' : lkS (([], ()) : Lk) = List.replicate 32 0 := by rw [lkS, lk0]; rfl
  rw [s0'] at s0
  have tw : (([([a, b], ((9 : Int), ((0 : Int), ((16 : Int), ()))))], ()) : Lk) = stL a b := rfl
  have tw2 : ((1 : Int), (([] : List (Int × (Int × Unit))), ((0 : Int), ()))) = emptyW := rfl
  rw [small12.eq]
  simp only [small12.JS9.fin_eq, small12.JS10.fin_eq, small12.JS11.fin_eq]
  rw [c1, obind_some, c2, obind_some, c3, obind_some, c4, obind_some, w1, obind_some, w2, obind_some, o1, obind_some, ieq_true rfl, sel_true, o2, obind_some, ieq_true rfl, sel_true, o3, obind_some, ieq_true rfl, sel_true,
    w3, obind_some, o4, obind_some, ieq_true rfl, sel_true, w4, obind_some, o5]
  simp only [obind_some, tw, tw2]
  rw [w5, obind_some, o6, obind_some, ieq_true rfl, sel_true, obind_some, o7, obind_some, ieq_true rfl, sel_true, w6, obind_some, o8, obind_some, ieq_true rfl, sel_true, w7, obind_some, o9]
  simp only [obind_some]
  rw [c5, obind_some, o10, obind_some, ieq_true rfl, sel_true, obind_some, o11]
  simp only [obind_some]
  rw [ieq_true rfl, sel_true, ieq_true rfl, sel_true, ieq_true rfl, sel_true, r1, obind_some, sel_true, c6, obind_some, r2, obind_some]
  show obind (lright.call (([], ()) : Lk)) _ = _
  rw [r3, obind_some]
  show obind (lboth.call (a, b)) _ = _
  rw [c7, obind_some, r4, obind_some, sel_true, c6, obind_some, b4, obind_some, lkB4, seq_same, sel_true, obind_some, s4, obind_some, obind_some, b4, obind_some, t4, obind_some, beq32, sel_true]
  show obind (lsum.call (([], ()) : Lk)) _ = _
  rw [s0, obind_some, beq32]
  rfl

theorem small12.inj : ∀ d d', small12.st d = small12.st d' → d = d' := fun _ _ _ => rfl
noncomputable def small12.E : Entry := Entry.of [] small12.st small12.Pre (fun d => small12.add d (small12.F d)) small12.out
noncomputable def small12.call : small12.D → Option small12.X := fun d => small12.E.run (small12.st d).1 (small12.st d).2
theorem small12.run {d : small12.D} (h : small12.Pre d) : small12.call d = some (small12.add d (small12.F d)) := Entry.of_run small12.inj h
theorem small12.does : Does Try.prog 8 small12.E := Does.of (by kernel_rfl) (show Sound _ small12.G from Sound.cons hsum.does (Sound.cons pbase.does (Sound.cons llate.does (Sound.cons wsigned.does (Sound.cons lopen.does (Sound.cons lanchor.does (Sound.cons lright.does (Sound.cons lkey.does (Sound.cons lboth.does (Sound.cons lbytes.does (Sound.cons lsum.does (Sound.cons htag.does (Sound.nil _))))))))))))) (by kernel_rfl) (by kernel_rfl) (by kernel_rfl) (LOk.fn 0 (by kernel_rfl) trivial) small12.ok

end Go.Ab
