/-
  Texts put together: Lw3, Rd1, Rd2, R81, R82, Lb1, Eq1, Lr1, Lr2, Gp1, Rp1, Rp2, Rq1.
-/
import Derived.Test.YtglpcfdjdabdnaaGreatM6x2
namespace Go.Ab
open Go.Proofs
set_option maxRecDepth 100000
set_option linter.unusedVariables false
set_option linter.unusedSimpArgs false


theorem baseP_u (k : Int) : U64 (baseP k) := (pw_ok _ _).u
theorem signQ_u (k : Int) (m : List Int) : SgU (signQ k m) := by
  unfold signQ
  split
  · exact ⟨(sumP_ok _).u, (addQ_ok _ _).u⟩
  · exact ⟨⟨Int.le_refl 0, by decide⟩, Int.le_refl 0, by decide⟩
theorem signedW_u (br : Int) (ks : List Int) (m : List Int) (s : Int) (hs : U64 s) : WitU (signedW br ks m s) :=
  ⟨fun x hx => by
    have hx : x ∈ ks.map fun k => signQ k m := hx
    obtain ⟨k, _, rfl⟩ := List.mem_map.1 hx
    exact signQ_u k m, hs⟩
def stL (a b : Int) : Lk := ([([a, b], 9, 0, 16, ())], ())
def emptyW : Wit := (1, [], 0, ())
def mT : List Int := [152, 45, 158, 62, 185, 150, 245, 89, 230, 51, 244, 209, 148, 222, 243, 118, 29, 144, 159, 90, 59, 100, 125, 26, 133, 31, 234, 214, 124, 50, 201, 209]
theorem mT_eq : sha [116, 101, 120, 116] = mT := by decide +kernel
theorem a_eq : baseP 3 = 64 := by decide +kernel
theorem b_eq : baseP 5 = 1024 := by decide +kernel
theorem s3 : signQ 3 mT = (2066670005889522986, 1913675330412042729, ()) := by decide +kernel
theorem s5 : signQ 5 mT = (1601457595092860225, 1871270319440231866, ()) := by decide +kernel
theorem W3 (br s : Int) : signedW br [3] mT s = (br, [(2066670005889522986, 1913675330412042729, ())], s, ()) := by show (br, [signQ 3 mT], s, ()) = _; rw [s3]
theorem W5 (br s : Int) : signedW br [5] mT s = (br, [(1601457595092860225, 1871270319440231866, ())], s, ()) := by show (br, [signQ 5 mT], s, ()) = _; rw [s5]
theorem W35 (br s : Int) : signedW br [3, 5] mT s = (br, [(2066670005889522986, 1913675330412042729, ()), (1601457595092860225, 1871270319440231866, ())], s, ()) := by show (br, [signQ 3 mT, signQ 5 mT], s, ()) = _; rw [s3, s5]
theorem small12_facts : ∃ (m : List Int) (a b : Int), sha [116, 101, 120, 116] = m ∧ baseP 3 = a ∧ baseP 5 = b ∧
    openL (lateL a b 7) (signedW 1 [3] m 0) m 0 6 = 11 ∧ openL (lateL a b 7) (signedW 1 [3] m 0) m 0 7 = 0 ∧ openL (lateL a b 7) (signedW 0 [5] m 0) m 0 0 = 0 ∧
    openL (lateL a b 7) (signedW 0 [3] m 0) m 0 9 = 7 ∧ openL (lateL a b 7) (signedW 2 [] m 0) m 0 9 = 1 ∧
    openL (stL a b) (signedW 0 [3, 5] m 2) m 9 0 = 0 ∧ openL (stL a b) (signedW 0 [3, 5] m 2) m 8 0 = 11 ∧ openL (stL a b) (signedW 0 [3, 5] m 3) m 9 0 = 23 ∧ openL (stL a b) (signedW 0 [3] m 2) m 9 0 = 7 ∧
    openL (anchorL a) emptyW m 0 16 = 0 ∧ openL (anchorL a) emptyW m 0 15 = 11 ∧ lkOk (stL a b) = true ∧ lkOk (allL [a, b]) = true :=
  ⟨mT, 64, 1024, mT_eq, a_eq, b_eq, by rw [W3]; decide +kernel, by rw [W3]; decide +kernel, by rw [W5]; decide +kernel, by rw [W3]; decide +kernel, by decide +kernel, by rw [W35]; decide +kernel, by rw [W35]; decide +kernel, by rw [W35]; decide +kernel, by rw [W3]; decide +kernel,
    by decide +kernel, by decide +kernel, by decide +kernel, by decide +kernel⟩
theorem lk2 : lkOk (allL [2]) = false := by decide +kernel
theorem lk4 : lkOk (allL [4]) = true := by decide +kernel
theorem lk0 : lkOk ([], ()) = false := by decide +kernel
theorem lkB4 : lkB (allL [4]) = [1, 1, 0, 0, 0, 0, 0, 0, 0, 4, 0, 0, 0, 0, 0, 0, 0, 0, 0, 0] := by decide +kernel
theorem beqL_self : ∀ l : List Int, listBeq (fun (x y : Int) => x == y) l l = true
  | [] => rfl
  | x :: l => by rw [listBeq, beqL_self l]; simp
theorem beq32 (l : List Int) : Ty.beq (.arr 32 (.int .u8)) l l = true := beqL_self l
theorem seq_same (s : ByteArray) : seq s s = true := by simp [seq]

/-! ### corsned/corsnedlaw12.small -/
abbrev small12.JS9.X := Int × Int × Bool × (List Int) × ((List ((List Int) × (Int × (Int × (Int × Unit))))) × Unit)
def small12.JS9.st : small12.JS9.X → AS := fun (a, b, one, n1, n5) => ⟨([.undef, .ptr (.new 1 0) 0 [] 0, .d (.int .u64) a, .d (.int .u64) b, .undef, .ptr (.new 5 0) 0 [] 0, .undef, .undef, .d .bool one] ++ undN 156 []), [], ([[], [.obj 0 false (.d (.arr 32 (.int .u8)) n1)], [], [], [], [.obj 0 false (.d (.pair (.slice (.pair (.slice (.int .u64)) (.pair (.int .i64) (.pair (.int .i64) (.pair (.int .u64) .unit))))) .unit) n5)]] ++ nilN 159 [])⟩
noncomputable def small12.JS9.J : Join := Join.of { keep := [1, 2, 3, 5, 8], sites := [1, 5], frz := [], data := [], owns := [] } small12.JS9.st
noncomputable def small12.JS9.fin : small12.JS9.X → Option small12.JS9.X := fun x => (small12.JS9.J).inn .normal (small12.JS9.st x)
theorem small12.JS9.inj : ∀ d d', small12.JS9.st d = small12.JS9.st d' → d = d' := fun (a, b, one, n1, n5) (a', b', one', n1', n5') hEq => by
  have e0 : a = a' := d_inj (t := (.int .u64)) (congrArg (fun s : AS => (s.slot 2)) hEq)
  have e1 : b = b' := d_inj (t := (.int .u64)) (congrArg (fun s : AS => (s.slot 3)) hEq)
  have e2 : one = one' := d_inj (t := .bool) (congrArg (fun s : AS => (s.slot 8)) hEq)
  have e3 : n1 = n1' := d_inj (t := (.arr 32 (.int .u8))) (congrArg (fun s : AS => (entC (s.ent (.new 1 0)))) hEq)
  have e4 : n5 = n5' := d_inj (t := (.pair (.slice (.pair (.slice (.int .u64)) (.pair (.int .i64) (.pair (.int .i64) (.pair (.int .u64) .unit))))) .unit)) (congrArg (fun s : AS => (entC (s.ent (.new 5 0)))) hEq)
  rw [e0, e1, e2, e3, e4]
theorem small12.JS9.fin_eq (x : small12.JS9.X) : small12.JS9.fin x = some x := Join.of_inn small12.JS9.inj x
abbrev small12.JS10.X := Int × Int × Bool × Bool × (List Int) × ((List ((List Int) × (Int × (Int × (Int × Unit))))) × Unit)
def small12.JS10.st : small12.JS10.X → AS := fun (a, b, one, two, n1, n5) => ⟨([.undef, .ptr (.new 1 0) 0 [] 0, .d (.int .u64) a, .d (.int .u64) b, .undef, .ptr (.new 5 0) 0 [] 0, .undef, .undef, .d .bool one, .d .bool two] ++ undN 155 []), [], ([[], [.obj 0 false (.d (.arr 32 (.int .u8)) n1)], [], [], [], [.obj 0 false (.d (.pair (.slice (.pair (.slice (.int .u64)) (.pair (.int .i64) (.pair (.int .i64) (.pair (.int .u64) .unit))))) .unit) n5)]] ++ nilN 159 [])⟩
noncomputable def small12.JS10.J : Join := Join.of { keep := [1, 2, 3, 5, 8, 9], sites := [1, 5], frz := [], data := [], owns := [] } small12.JS10.st
noncomputable def small12.JS10.fin : small12.JS10.X → Option small12.JS10.X := fun x => (small12.JS10.J).inn .normal (small12.JS10.st x)
theorem small12.JS10.inj : ∀ d d', small12.JS10.st d = small12.JS10.st d' → d = d' := fun (a, b, one, two, n1, n5) (a', b', one', two', n1', n5') hEq => by
  have e0 : a = a' := d_inj (t := (.int .u64)) (congrArg (fun s : AS => (s.slot 2)) hEq)
  have e1 : b = b' := d_inj (t := (.int .u64)) (congrArg (fun s : AS => (s.slot 3)) hEq)
  have e2 : one = one' := d_inj (t := .bool) (congrArg (fun s : AS => (s.slot 8)) hEq)
  have e3 : two = two' := d_inj (t := .bool) (congrArg (fun s : AS => (s.slot 9)) hEq)
  have e4 : n1 = n1' := d_inj (t := (.arr 32 (.int .u8))) (congrArg (fun s : AS => (entC (s.ent (.new 1 0)))) hEq)
  have e5 : n5 = n5' := d_inj (t := (.pair (.slice (.pair (.slice (.int .u64)) (.pair (.int .i64) (.pair (.int .i64) (.pair (.int .u64) .unit))))) .unit)) (congrArg (fun s : AS => (entC (s.ent (.new 5 0)))) hEq)
  rw [e0, e1, e2, e3, e4, e5]
theorem small12.JS10.fin_eq (x : small12.JS10.X) : small12.JS10.fin x = some x := Join.of_inn small12.JS10.inj x
abbrev small12.JS11.X := Int × Int × Bool × Bool × Bool × ((List ((List Int) × (Int × (Int × (Int × Unit))))) × Unit)
def small12.JS11.st : small12.JS11.X → AS := fun (a, b, one, two, three, n5) => ⟨([.undef, .undef, .d (.int .u64) a, .d (.int .u64) b, .undef, .ptr (.new 5 0) 0 [] 0, .undef, .undef, .d .bool one, .d .bool two, .d .bool three] ++ undN 154 []), [], (nilN 5 ([[.obj 0 false (.d (.pair (.slice (.pair (.slice (.int .u64)) (.pair (.int .i64) (.pair (.int .i64) (.pair (.int .u64) .unit))))) .unit) n5)]] ++ nilN 159 []))⟩
noncomputable def small12.JS11.J : Join := Join.of { keep := [2, 3, 5, 8, 9, 10], sites := [5], frz := [], data := [], owns := [] } small12.JS11.st
noncomputable def small12.JS11.fin : small12.JS11.X → Option small12.JS11.X := fun x => (small12.JS11.J).inn .normal (small12.JS11.st x)
theorem small12.JS11.inj : ∀ d d', small12.JS11.st d = small12.JS11.st d' → d = d' := fun (a, b, one, two, three, n5) (a', b', one', two', three', n5') hEq => by
  have e0 : a = a' := d_inj (t := (.int .u64)) (congrArg (fun s : AS => (s.slot 2)) hEq)
  have e1 : b = b' := d_inj (t := (.int .u64)) (congrArg (fun s : AS => (s.slot 3)) hEq)
  have e2 : one = one' := d_inj (t := .bool) (congrArg (fun s : AS => (s.slot 8)) hEq)
  have e3 : two = two' := d_inj (t := .bool) (congrArg (fun s : AS => (s.slot 9)) hEq)
  have e4 : three = three' := d_inj (t := .bool) (congrArg (fun s : AS => (s.slot 10)) hEq)
  have e5 : n5 = n5' := d_inj (t := (.pair (.slice (.pair (.slice (.int .u64)) (.pair (.int .i64) (.pair (.int .i64) (.pair (.int .u64) .unit))))) .unit)) (congrArg (fun s : AS => (entC (s.ent (.new 5 0)))) hEq)
  rw [e0, e1, e2, e3, e4, e5]
theorem small12.JS11.fin_eq (x : small12.JS11.X) : small12.JS11.fin x = some x := Join.of_inn small12.JS11.inj x
abbrev small12.D := Unit
def small12.st : small12.D → List AVal × List Ent := fun _ => ([], [])
abbrev small12.Y := Bool
abbrev small12.X := Bool
def small12.out : small12.X → GRes := fun x => ⟨.d .bool x, [], []⟩
def small12.add : small12.D → small12.Y → small12.X := fun _ y => y


def small12.Pre : small12.D → Prop := fun _ => True
def small12.F : small12.D → small12.Y := fun _ => true

noncomputable def small12.G : Gam := gcons 51 anyArgs hsum.E (gcons 44 anyArgs pbase.E (gcons 50 anyArgs llate.E (gcons 52 anyArgs wsigned.E (gcons 47 anyArgs lopen.E (gcons 53 anyArgs lanchor.E (gcons 13 anyArgs lright.E (gcons 48 anyArgs lkey.E (gcons 49 anyArgs lboth.E (gcons 17 anyArgs lbytes.E (gcons 19 anyArgs lsum.E (gcons 54 anyArgs htag.E (gnil))))))))))))
noncomputable def small12.an : Ann := {
  objs := [11],
  loops := fun r => { keep := [], sites := [], frz := [], data := [], owns := [] },
  outs := fun r b => { keep := [], sites := [], frz := [], data := [], owns := [] },
  sums := fun r => none,
  owns := [],
  trim := [],
  res := [],
  joinS := fun r => bif Nat.beq r 9 then some small12.JS9.J else bif Nat.beq r 10 then some small12.JS10.J else bif Nat.beq r 11 then some small12.JS11.J else none }
theorem small12.eq {R : Type}  (k : GRes → Option R) : arun Tryz.prog small12.G small12.an 0 Tryz.f9 (small12.st ()).1 (small12.st ()).2 k =
  obind (hsum.call [(116 : Int), (101 : Int), (120 : Int), (116 : Int)]) fun x4 =>
  obind (pbase.call (3 : Int)) fun x8 =>
  obind (pbase.call (5 : Int)) fun x12 =>
  obind (llate.call (x8, x12, (7 : Int))) fun x16 =>
  obind (wsigned.call ((1 : Int), [(3 : Int)], x4, (0 : Int))) fun x20 =>
  obind (wsigned.call ((0 : Int), [(5 : Int)], x4, (0 : Int))) fun x24 =>
  obind (
   obind (lopen.call (x16, x20, x4, (0 : Int), (6 : Int))) fun x46 =>
   sel ((ieq x46 (11 : Int))) (
    obind (lopen.call (x16, x20, x4, (0 : Int), (7 : Int))) fun x47 =>
    sel ((ieq x47 (0 : Int))) (
     obind (lopen.call (x16, x24, x4, (0 : Int), (0 : Int))) fun x48 =>
     sel ((ieq x48 (0 : Int))) (
      obind (wsigned.call ((0 : Int), [(3 : Int)], x4, (0 : Int))) fun x49 =>
      obind (lopen.call (x16, x49, x4, (0 : Int), (9 : Int))) fun x50 =>
      sel ((ieq x50 (7 : Int))) (
       obind (wsigned.call ((2 : Int), ([] : List Int), x4, (0 : Int))) fun x51 =>
       obind (lopen.call (x16, x51, x4, (0 : Int), (9 : Int))) fun x52 =>
       small12.JS9.fin (x8, x12, (ieq x52 (1 : Int)), x4, ([([x8, x12], ((9 : Int), ((0 : Int), ((16 : Int), ()))))], ()))) (
       small12.JS9.fin (x8, x12, false, x4, ([([x8, x12], ((9 : Int), ((0 : Int), ((16 : Int), ()))))], ())))) (
      small12.JS9.fin (x8, x12, false, x4, ([([x8, x12], ((9 : Int), ((0 : Int), ((16 : Int), ()))))], ())))) (
     small12.JS9.fin (x8, x12, false, x4, ([([x8, x12], ((9 : Int), ((0 : Int), ((16 : Int), ()))))], ())))) (
    small12.JS9.fin (x8, x12, false, x4, ([([x8, x12], ((9 : Int), ((0 : Int), ((16 : Int), ()))))], ())))) fun x53 =>
  obind (
   obind (wsigned.call ((0 : Int), [(3 : Int), (5 : Int)], x53.2.2.2.1, (2 : Int))) fun x78 =>
   obind (lopen.call (x53.2.2.2.2, x78, x53.2.2.2.1, (9 : Int), (0 : Int))) fun x79 =>
   sel ((ieq x79 (0 : Int))) (
    obind (wsigned.call ((0 : Int), [(3 : Int), (5 : Int)], x53.2.2.2.1, (2 : Int))) fun x80 =>
    obind (lopen.call (x53.2.2.2.2, x80, x53.2.2.2.1, (8 : Int), (0 : Int))) fun x81 =>
    sel ((ieq x81 (11 : Int))) (
     obind (wsigned.call ((0 : Int), [(3 : Int), (5 : Int)], x53.2.2.2.1, (3 : Int))) fun x82 =>
     obind (lopen.call (x53.2.2.2.2, x82, x53.2.2.2.1, (9 : Int), (0 : Int))) fun x83 =>
     sel ((ieq x83 (23 : Int))) (
      obind (wsigned.call ((0 : Int), [(3 : Int)], x53.2.2.2.1, (2 : Int))) fun x84 =>
      obind (lopen.call (x53.2.2.2.2, x84, x53.2.2.2.1, (9 : Int), (0 : Int))) fun x85 =>
      small12.JS10.fin (x53.1, x53.2.1, x53.2.2.1, (ieq x85 (7 : Int)), x53.2.2.2.1, x53.2.2.2.2)) (
      small12.JS10.fin (x53.1, x53.2.1, x53.2.2.1, false, x53.2.2.2.1, x53.2.2.2.2))) (
     small12.JS10.fin (x53.1, x53.2.1, x53.2.2.1, false, x53.2.2.2.1, x53.2.2.2.2))) (
    small12.JS10.fin (x53.1, x53.2.1, x53.2.2.1, false, x53.2.2.2.1, x53.2.2.2.2))) fun x86 =>
  obind (
   obind (lanchor.call x86.1) fun x99 =>
   obind (lopen.call (x99, ((1 : Int), (([] : List (Int × (Int × Unit))), ((0 : Int), ()))), x86.2.2.2.2.1, (0 : Int), (16 : Int))) fun x100 =>
   sel ((ieq x100 (0 : Int))) (
    obind (lanchor.call x86.1) fun x101 =>
    obind (lopen.call (x101, ((1 : Int), (([] : List (Int × (Int × Unit))), ((0 : Int), ()))), x86.2.2.2.2.1, (0 : Int), (15 : Int))) fun x102 =>
    small12.JS11.fin (x86.1, x86.2.1, x86.2.2.1, x86.2.2.2.1, (ieq x102 (11 : Int)), x86.2.2.2.2.2)) (
    small12.JS11.fin (x86.1, x86.2.1, x86.2.2.1, x86.2.2.2.1, false, x86.2.2.2.2.2))) fun x103 =>
  sel (x103.2.2.1) (
   sel (x103.2.2.2.1) (
    sel (x103.2.2.2.2.1) (
     obind (lright.call x103.2.2.2.2.2) fun x118 =>
     sel (x118) (
      obind (lkey.call (2 : Int)) fun x119 =>
      obind (lright.call x119) fun x120 =>
      sel ((!x120)) (
       obind (lright.call (([] : List ((List Int) × (Int × (Int × (Int × Unit))))), ())) fun x121 =>
       sel ((!x121)) (
        obind (lboth.call (x103.1, x103.2.1)) fun x122 =>
        obind (lright.call x122) fun x123 =>
        sel (x123) (
         obind (lkey.call (4 : Int)) fun x124 =>
         obind (lbytes.call x124) fun x125 =>
         sel ((seq (strOfBytes x125) (strOfBytes [(1 : Int), (1 : Int), (0 : Int), (0 : Int), (0 : Int), (0 : Int), (0 : Int), (0 : Int), (0 : Int), (4 : Int), (0 : Int), (0 : Int), (0 : Int), (0 : Int), (0 : Int), (0 : Int), (0 : Int), (0 : Int), (0 : Int), (0 : Int)]))) (
          obind (lkey.call (4 : Int)) fun x126 =>
          obind (lsum.call x126) fun x127 =>
          obind (lkey.call (4 : Int)) fun x128 =>
          obind (lbytes.call x128) fun x129 =>
          obind (htag.call ((⟨#[108, 111, 99, 107]⟩ : ByteArray), [x129])) fun x130 =>
          sel ((Ty.beq (.arr 32 (.int .u8)) x127 x130)) (
           obind (lsum.call (([] : List ((List Int) × (Int × (Int × (Int × Unit))))), ())) fun x131 =>
           k (small12.out (Ty.beq (.arr 32 (.int .u8)) x131 (List.replicate 32 (0 : Int))))) (
           k (small12.out false))) (
          k (small12.out false))) (
         k (small12.out false))) (
        k (small12.out false))) (
       k (small12.out false))) (
      k (small12.out false))) (
     k (small12.out false))) (
    k (small12.out false))) (
   k (small12.out false)) := by kernel_rfl


theorem small12.ok : ∀ d, small12.Pre d → arun Tryz.prog small12.G small12.an 0 Tryz.f9 (small12.st d).1 (small12.st d).2 some = some (small12.out (small12.add d (small12.F d))) := by
  rintro ⟨⟩ _
  obtain ⟨m, a, b, hm, ha, hb, f1, f2, f3, f4, f5, f6, f7, f8, f9, f10, f11, f12, f13⟩ := small12_facts
  have sm : Sm m := hm ▸ sm_sha _
  have ua : U64 a := by rw [← ha]; exact baseP_u 3
  have ub : U64 b := by rw [← hb]; exact baseP_u 5
  have u : ∀ n : Int, 0 ≤ n → n < 1000 → U64 n := fun n h1 h2 => ⟨h1, by omega⟩
  have k1 : ∀ x : Int, U64 x → KeysU [x] := fun x hx y hy => by
    simp only [List.mem_cons, List.not_mem_nil, or_false] at hy; rw [hy]; exact hx
  have k2 : ∀ x z : Int, U64 x → U64 z → KeysU [x, z] := fun x z hx hz y hy => by
    simp only [List.mem_cons, List.not_mem_nil, or_false] at hy; rcases hy with rfl | rfl <;> assumption
  have k0 : KeysU [] := fun y hy => by simp at hy
  have L1 : LkU (lateL a b 7) := fun x hx => by
    simp only [lateL, List.mem_cons, List.not_mem_nil, or_false] at hx
    rcases hx with rfl | rfl
    · exact ⟨k1 b ub, u 0 (by omega) (by omega)⟩
    · exact ⟨k1 a ua, u 0 (by omega) (by omega)⟩
  have L2 : LkU (stL a b) := fun x hx => by
    simp only [stL, List.mem_cons, List.not_mem_nil, or_false] at hx
    rw [hx]
    exact ⟨k2 a b ua ub, u 16 (by omega) (by omega)⟩
  have L3 : LkU (anchorL a) := fun x hx => by
    simp only [anchorL, List.mem_cons, List.not_mem_nil, or_false] at hx
    rcases hx with rfl | rfl
    · exact ⟨k1 a ua, u 0 (by omega) (by omega)⟩
    · exact ⟨k0, u 0 (by omega) (by omega)⟩
  have L4 : ∀ ks, KeysU ks → LkU (allL ks) := fun ks hk x hx => by
    simp only [allL, List.mem_cons, List.not_mem_nil, or_false] at hx
    rw [hx]
    exact ⟨hk, u 0 (by omega) (by omega)⟩
  have L5 : LkU (([], ()) : Lk) := fun x hx => by simp at hx
  have n2 : ∀ l : Lk, l.1.length ≤ 2 → l.1.length ≤ 1000000000 := fun l h => by omega
  have O : ∀ l w h t, LkU l → l.1.length ≤ 2 → WitU w → lopen.call (l, w, m, h, t) = some (openL l w m h t) := fun l w h t h1 h2 h3 => lopen.run (d := (l, w, m, h, t)) ⟨h1, n2 l h2, h3, sm⟩
  have W : ∀ br ks s, KeysU ks → ks.length ≤ 2 → wsigned.call (br, ks, m, s) = some (signedW br ks m s) := fun br ks s h1 h2 => wsigned.run (d := (br, ks, m, s)) ⟨h1, sm, by show ks.length ≤ 1000000; omega⟩
  have R : ∀ l, LkU l → l.1.length ≤ 2 → lright.call l = some (lkOk l) := fun l h1 h2 => lright.run (d := l) ⟨h1, n2 l h2⟩
  have B : ∀ l, LkU l → l.1.length ≤ 2 → lbytes.call l = some (lkB l) := fun l h1 h2 => lbytes.run (d := l) ⟨h1, n2 l h2⟩
  have S : ∀ l, LkU l → l.1.length ≤ 2 → lsum.call l = some (lkS l) := fun l h1 h2 => lsum.run (d := l) ⟨h1, n2 l h2⟩
  have u3 := u 3 (by omega) (by omega)
  have u5 := u 5 (by omega) (by omega)
  have c1 : hsum.call [116, 101, 120, 116] = some m := by rw [← hm]; exact hsum.run (d := [116, 101, 120, 116]) (by show [_, _, _, _].length ≤ _; simp only [List.length_cons, List.length_nil]; omega)
  have c2 : pbase.call 3 = some a := by rw [← ha]; exact pbase.run (d := 3) u3
  have c3 : pbase.call 5 = some b := by rw [← hb]; exact pbase.run (d := 5) u5
  have c4 : llate.call (a, b, 7) = some (lateL a b 7) := llate.run (d := (a, b, 7)) trivial
  have c5 : lanchor.call a = some (anchorL a) := lanchor.run (d := a) trivial
  have c6 : ∀ x, lkey.call x = some (allL [x]) := fun x => lkey.run (d := x) trivial
  have c7 : lboth.call (a, b) = some (allL [a, b]) := lboth.run (d := (a, b)) trivial
  have w1 := W 1 [3] 0 (k1 3 u3) (by simp)
  have w2 := W 0 [5] 0 (k1 5 u5) (by simp)
  have w3 := W 0 [3] 0 (k1 3 u3) (by simp)
  have w4 := W 2 [] 0 k0 (by simp)
  have w5 := W 0 [3, 5] 2 (k2 3 5 u3 u5) (by simp)
  have w6 := W 0 [3, 5] 3 (k2 3 5 u3 u5) (by simp)
  have w7 := W 0 [3] 2 (k1 3 u3) (by simp)
  have su : ∀ br ks s, 0 ≤ s → s < 1000 → WitU (signedW br ks m s) := fun br ks s h1 h2 => signedW_u br ks m s (u s h1 h2)
  have ew : WitU emptyW := ⟨fun x hx => by simp [emptyW] at hx, u 0 (by omega) (by omega)⟩
  have o1 := O (lateL a b 7) (signedW 1 [3] m 0) 0 6 L1 (by simp [lateL]) (su _ _ _ (by omega) (by omega))
  have o2 := O (lateL a b 7) (signedW 1 [3] m 0) 0 7 L1 (by simp [lateL]) (su _ _ _ (by omega) (by omega))
  have o3 := O (lateL a b 7) (signedW 0 [5] m 0) 0 0 L1 (by simp [lateL]) (su _ _ _ (by omega) (by omega))
  have o4 := O (lateL a b 7) (signedW 0 [3] m 0) 0 9 L1 (by simp [lateL]) (su _ _ _ (by omega) (by omega))
  have o5 := O (lateL a b 7) (signedW 2 [] m 0) 0 9 L1 (by simp [lateL]) (su _ _ _ (by omega) (by omega))
  have o6 := O (stL a b) (signedW 0 [3, 5] m 2) 9 0 L2 (by simp [stL]) (su _ _ _ (by omega) (by omega))
  have o7 := O (stL a b) (signedW 0 [3, 5] m 2) 8 0 L2 (by simp [stL]) (su _ _ _ (by omega) (by omega))
  have o8 := O (stL a b) (signedW 0 [3, 5] m 3) 9 0 L2 (by simp [stL]) (su _ _ _ (by omega) (by omega))
  have o9 := O (stL a b) (signedW 0 [3] m 2) 9 0 L2 (by simp [stL]) (su _ _ _ (by omega) (by omega))
  have o10 := O (anchorL a) emptyW 0 16 L3 (by simp [anchorL]) ew
  have o11 := O (anchorL a) emptyW 0 15 L3 (by simp [anchorL]) ew
  rw [f1] at o1
  rw [f2] at o2
  rw [f3] at o3
  rw [f4] at o4
  rw [f5] at o5
  rw [f6] at o6
  rw [f7] at o7
  rw [f8] at o8
  rw [f9] at o9
  rw [f10] at o10
  rw [f11] at o11
  have r1 := R (stL a b) L2 (by simp [stL])
  rw [f12] at r1
  have r2 := R (allL [2]) (L4 _ (k1 2 (u 2 (by omega) (by omega)))) (by simp [allL])
  rw [lk2] at r2
  have r3 := R ([], ()) L5 (by simp)
  rw [lk0] at r3
  have r4 := R (allL [a, b]) (L4 _ (k2 a b ua ub)) (by simp [allL])
  rw [f13] at r4
  have L6 : LkU (allL [4]) := L4 _ (k1 4 (u 4 (by omega) (by omega)))
  have b4 := B (allL [4]) L6 (by simp [allL])
  have s4 := S (allL [4]) L6 (by simp [allL])
  have s0 := S ([], ()) L5 (by simp)
  have t4 : htag.call ((⟨#[108, 111, 99, 107]⟩ : ByteArray), [lkB (allL [4])]) = some (lkS (allL [4])) := by
    rw [htag.run (d := ((⟨#[108, 111, 99, 107]⟩ : ByteArray), [lkB (allL [4])])) (tag_pre1 (by decide) (by have := lkB_len (allL [4]); omega)), lkS, lk4]
    rfl
  have s0' : lkS (([], ()) : Lk) = List.replicate 32 0 := by rw [lkS, lk0]; rfl
  rw [s0'] at s0
  have tw : (([([a, b], ((9 : Int), ((0 : Int), ((16 : Int), ()))))], ()) : Lk) = stL a b := rfl
  have tw2 : ((1 : Int), (([] : List (Int × (Int × Unit))), ((0 : Int), ()))) = emptyW := rfl
  rw [small12.eq]
  simp only [small12.JS9.fin_eq, small12.JS10.fin_eq, small12.JS11.fin_eq]
  rw [c1, obind_some, c2, obind_some, c3, obind_some, c4, obind_some, w1, obind_some, w2, obind_some, o1, obind_some, ieq_true rfl, sel_true, o2, obind_some, ieq_true rfl, sel_true, o3, obind_some, ieq_true rfl, sel_true,
    w3, obind_some, o4, obind_some, ieq_true rfl, sel_true, w4, obind_some, o5]
  simp only [obind_some, tw, tw2]
  rw [w5, obind_some, o6, obind_some, ieq_true rfl, sel_true, obind_some, o7, obind_some, ieq_true rfl, sel_true, w6, obind_some, o8, obind_some, ieq_true rfl, sel_true, w7, obind_some, o9]
  simp only [obind_some]
  rw [c5, obind_some, o10, obind_some, ieq_true rfl, sel_true, obind_some, o11]
  simp only [obind_some]
  rw [ieq_true rfl, sel_true, ieq_true rfl, sel_true, ieq_true rfl, sel_true, r1, obind_some, sel_true, c6, obind_some, r2, obind_some]
  show obind (lright.call (([], ()) : Lk)) _ = _
  rw [r3, obind_some]
  show obind (lboth.call (a, b)) _ = _
  rw [c7, obind_some, r4, obind_some, sel_true, c6, obind_some, b4, obind_some, lkB4, seq_same, sel_true, obind_some, s4, obind_some, obind_some, b4, obind_some, t4, obind_some, beq32, sel_true]
  show obind (lsum.call (([], ()) : Lk)) _ = _
  rw [s0, obind_some, beq32]
  rfl

theorem small12.inj : ∀ d d', small12.st d = small12.st d' → d = d' := fun _ _ _ => rfl
noncomputable def small12.E : Entry := Entry.of [] small12.st small12.Pre (fun d => small12.add d (small12.F d)) small12.out
noncomputable def small12.call : small12.D → Option small12.X := fun d => small12.E.run (small12.st d).1 (small12.st d).2
theorem small12.run {d : small12.D} (h : small12.Pre d) : small12.call d = some (small12.add d (small12.F d)) := Entry.of_run small12.inj h
theorem small12.does : Does Tryz.prog 9 small12.E := Does.of (by kernel_rfl) (show Sound _ small12.G from Sound.cons hsum.does (Sound.cons pbase.does (Sound.cons llate.does (Sound.cons wsigned.does (Sound.cons lopen.does (Sound.cons lanchor.does (Sound.cons lright.does (Sound.cons lkey.does (Sound.cons lboth.does (Sound.cons lbytes.does (Sound.cons lsum.does (Sound.cons htag.does (Sound.nil _))))))))))))) (by kernel_rfl) (by kernel_rfl) (by kernel_rfl) (LOk.fn 0 (by kernel_rfl) trivial) small12.ok

end Go.Ab
namespace Go.Ab
open Go.Proofs
set_option maxRecDepth 100000
set_option linter.unusedVariables false
set_option linter.unusedSimpArgs false


/-- A reader: what is left, and whether it has failed. -/
abbrev Rdr := List Int × (Bool × Unit)
def failR : Rdr := ([], true, ())
def RdrB (r : Rdr) : Prop := r.1.length ≤ 1000000000 ∧ Bytes r.1
def takeR (n : Nat) (r : Rdr) : List Int × Rdr := if r.2.1 = true ∨ r.1.length < n then ([], failR) else (r.1.take n, (r.1.drop n, r.2))
def num8 (l : List Int) : Int := l.foldl (fun n b => n * 256 + b) 0
def u64R (r : Rdr) : Int × Rdr := (num8 (takeR 8 r).1, (takeR 8 r).2)
theorem failR_b : RdrB failR := ⟨Nat.zero_le _, fun x hx => by cases hx⟩
theorem takeR_b {n : Nat} {r : Rdr} (h : RdrB r) : (takeR n r).1.length ≤ n ∧ Bytes (takeR n r).1 ∧ RdrB (takeR n r).2 := by
  unfold takeR
  split
  · exact ⟨Nat.zero_le _, fun x hx => (by cases hx), failR_b⟩
  · refine ⟨by rw [List.length_take]; omega, fun x hx => h.2 x (List.mem_of_mem_take hx), ?_, fun x hx => h.2 x (List.mem_of_mem_drop hx)⟩
    show (r.1.drop n).length ≤ _
    rw [List.length_drop]
    have := h.1
    omega
theorem takeR_len (n : Nat) (r : Rdr) : (takeR n r).2.1.length ≤ r.1.length := by
  unfold takeR
  split
  · exact Nat.zero_le _
  · show (r.1.drop n).length ≤ _
    rw [List.length_drop]; omega
theorem num8_snoc (l : List Int) (b : Int) : num8 (l ++ [b]) = num8 l * 256 + b := by unfold num8; rw [List.foldl_append]; rfl
theorem num8F_ok : ∀ (l : List Int) (n : Int) (k : Nat), Bytes l → 0 ≤ n → n < 256 ^ k → 0 ≤ l.foldl (fun n b => n * 256 + b) n ∧ l.foldl (fun n b => n * 256 + b) n < 256 ^ (k + l.length)
  | [], n, k, _, h0, h1 => ⟨h0, h1⟩
  | b :: l, n, k, hb, h0, h1 => by
    obtain ⟨hx1, hx2⟩ := hb b List.mem_cons_self
    have e : (256 : Int) ^ (k + 1) = 256 ^ k * 256 := Int.pow_succ 256 k
    have := num8F_ok l (n * 256 + b) (k + 1) (fun x hx => hb x (List.mem_cons_of_mem _ hx)) (by omega) (by rw [e]; omega)
    rw [show k + (b :: l).length = k + 1 + l.length by rw [List.length_cons]; omega]
    exact this
theorem num8_ok {l : List Int} (h : Bytes l) : 0 ≤ num8 l ∧ num8 l < 256 ^ l.length := by
  have := num8F_ok l 0 0 h (Int.le_refl 0) (by decide)
  rw [Nat.zero_add] at this
  exact this
theorem pow256_le {a b : Nat} (h : a ≤ b) : (256 : Int) ^ a ≤ 256 ^ b := by
  have : ((256 ^ a : Nat) : Int) ≤ ((256 ^ b : Nat) : Int) := Int.ofNat_le.2 (Nat.pow_le_pow_right (by decide) h)
  rw [Int.natCast_pow, Int.natCast_pow] at this
  exact this
theorem num8_u {l : List Int} (h : Bytes l) (h8 : l.length ≤ 8) : U64 (num8 l) := by
  have e := num8_ok h
  have e2 := pow256_le h8
  have e3 : (256 : Int) ^ 8 = 18446744073709551616 := rfl
  exact ⟨e.1, by omega⟩
theorem u64R_u {r : Rdr} (h : RdrB r) : U64 (u64R r).1 ∧ RdrB (u64R r).2 := ⟨num8_u (takeR_b h).2.1 (takeR_b h).1, (takeR_b h).2.2⟩
theorem step8 {n b : Int} (h0 : 0 ≤ n) (h1 : n < 72057594037927936) (hb : Byte b) : bitop .or .u64 (ishl .u64 n 8) (icv .u64 b) = n * 256 + b := by
  have e := (from_digits (n := n) (b := b) ⟨h0, by omega⟩ hb).1
  rw [shr_u64 56 (by rfl) (by omega)] at e
  have p : (2 : Int) ^ 56 = 72057594037927936 := rfl
  rw [p] at e
  omega

/-! ### (*corsned/code.Reader).fail -/
abbrev rfail.D := ((List Int) × (Bool × Unit))
def rfail.st : rfail.D → List AVal × List Ent := fun o0 => ([.ptr (.old 0) 0 [] 0], [.obj 0 false (.d (.pair (.slice (.int .u8)) (.pair .bool .unit)) o0)])
abbrev rfail.Y := ((List Int) × (Bool × Unit))
abbrev rfail.X := ((List Int) × (Bool × Unit))
def rfail.out : rfail.X → GRes := fun x => ⟨.nil, [.obj 0 false (.d (.pair (.slice (.int .u8)) (.pair .bool .unit)) x)], []⟩
def rfail.add : rfail.D → rfail.Y → rfail.X := fun o0 y => y


def rfail.Pre : rfail.D → Prop := fun _ => True
def rfail.F : rfail.D → rfail.Y := fun _ => failR

noncomputable def rfail.G : Gam := gnil
noncomputable def rfail.an : Ann := {
  objs := [],
  loops := fun r => { keep := [], sites := [], frz := [], data := [], owns := [] },
  outs := fun r b => { keep := [], sites := [], frz := [], data := [], owns := [] },
  sums := fun r => none,
  owns := [],
  trim := [],
  res := [],
  dats := [⟨0, [.arr], (.pair (.slice (.int .u8)) (.pair .bool .unit))⟩] }
theorem rfail.eq {R : Type} (o0 : ((List Int) × (Bool × Unit))) (k : GRes → Option R) : arun Tryz.prog rfail.G rfail.an 0 Tryz.f113 (rfail.st o0).1 (rfail.st o0).2 k =
  k (rfail.out (([] : List Int), (true, o0.2.2))) := by kernel_rfl


theorem rfail.ok : ∀ d, rfail.Pre d → arun Tryz.prog rfail.G rfail.an 0 Tryz.f113 (rfail.st d).1 (rfail.st d).2 some = some (rfail.out (rfail.add d (rfail.F d))) := by
  intro o _
  rw [rfail.eq]
  rfl

theorem rfail.inj : ∀ d d', rfail.st d = rfail.st d' → d = d' := fun o0 o0' hEq => by
  have e0 : o0 = o0' := d_inj (t := (.pair (.slice (.int .u8)) (.pair .bool .unit))) (congrArg (fun s : List AVal × List Ent => (entD (s.2.getD 0 .dead))) hEq)
  rw [e0]
noncomputable def rfail.E : Entry := Entry.of [none] rfail.st rfail.Pre (fun d => rfail.add d (rfail.F d)) rfail.out
noncomputable def rfail.call : rfail.D → Option rfail.X := fun d => rfail.E.run (rfail.st d).1 (rfail.st d).2
theorem rfail.run {d : rfail.D} (h : rfail.Pre d) : rfail.call d = some (rfail.add d (rfail.F d)) := Entry.of_run rfail.inj h
theorem rfail.does : Does Tryz.prog 113 rfail.E := Does.of (by kernel_rfl) (show Sound _ rfail.G from Sound.nil _) (by kernel_rfl) (by kernel_rfl) (by kernel_rfl) (LOk.fn 0 (by kernel_rfl) trivial) rfail.ok

/-! ### (*corsned/code.Reader).Left -/
abbrev rleft.D := ((List Int) × (Bool × Unit))
def rleft.st : rleft.D → List AVal × List Ent := fun o0 => ([.ptr (.old 0) 0 [] 0], [.obj 0 false (.d (.pair (.slice (.int .u8)) (.pair .bool .unit)) o0)])
abbrev rleft.Y := Int
abbrev rleft.X := (((List Int) × (Bool × Unit))) × (Int)
def rleft.out : rleft.X → GRes := fun x => ⟨.d (.int .i64) x.2, [.obj 0 false (.d (.pair (.slice (.int .u8)) (.pair .bool .unit)) x.1)], []⟩
def rleft.add : rleft.D → rleft.Y → rleft.X := fun o0 y => (o0, y)


def rleft.Pre : rleft.D → Prop := fun _ => True
def rleft.F : rleft.D → rleft.Y := fun o => (o.1.length : Int)

noncomputable def rleft.G : Gam := gnil
noncomputable def rleft.an : Ann := {
  objs := [],
  loops := fun r => { keep := [], sites := [], frz := [], data := [], owns := [] },
  outs := fun r b => { keep := [], sites := [], frz := [], data := [], owns := [] },
  sums := fun r => none,
  owns := [],
  trim := [],
  res := [] }
theorem rleft.eq {R : Type} (o0 : ((List Int) × (Bool × Unit))) (k : GRes → Option R) : arun Tryz.prog rleft.G rleft.an 0 Tryz.f80 (rleft.st o0).1 (rleft.st o0).2 k =
  k (rleft.out (o0, (((List.length o0.1) : Nat) : Int))) := by kernel_rfl


theorem rleft.ok : ∀ d, rleft.Pre d → arun Tryz.prog rleft.G rleft.an 0 Tryz.f80 (rleft.st d).1 (rleft.st d).2 some = some (rleft.out (rleft.add d (rleft.F d))) := by
  intro o _
  rw [rleft.eq]
  rfl

theorem rleft.inj : ∀ d d', rleft.st d = rleft.st d' → d = d' := fun o0 o0' hEq => by
  have e0 : o0 = o0' := d_inj (t := (.pair (.slice (.int .u8)) (.pair .bool .unit))) (congrArg (fun s : List AVal × List Ent => (entD (s.2.getD 0 .dead))) hEq)
  rw [e0]
noncomputable def rleft.E : Entry := Entry.of [none] rleft.st rleft.Pre (fun d => rleft.add d (rleft.F d)) rleft.out
noncomputable def rleft.call : rleft.D → Option rleft.X := fun d => rleft.E.run (rleft.st d).1 (rleft.st d).2
theorem rleft.run {d : rleft.D} (h : rleft.Pre d) : rleft.call d = some (rleft.add d (rleft.F d)) := Entry.of_run rleft.inj h
theorem rleft.does : Does Tryz.prog 80 rleft.E := Does.of (by kernel_rfl) (show Sound _ rleft.G from Sound.nil _) (by kernel_rfl) (by kernel_rfl) (by kernel_rfl) (LOk.fn 0 (by kernel_rfl) trivial) rleft.ok

/-! ### (*corsned/code.Reader).Ok -/
abbrev rokk.D := ((List Int) × (Bool × Unit))
def rokk.st : rokk.D → List AVal × List Ent := fun o0 => ([.ptr (.old 0) 0 [] 0], [.obj 0 false (.d (.pair (.slice (.int .u8)) (.pair .bool .unit)) o0)])
abbrev rokk.Y := Bool
abbrev rokk.X := (((List Int) × (Bool × Unit))) × (Bool)
def rokk.out : rokk.X → GRes := fun x => ⟨.d .bool x.2, [.obj 0 false (.d (.pair (.slice (.int .u8)) (.pair .bool .unit)) x.1)], []⟩
def rokk.add : rokk.D → rokk.Y → rokk.X := fun o0 y => (o0, y)


def rokk.Pre : rokk.D → Prop := fun _ => True
def rokk.F : rokk.D → rokk.Y := fun o => !o.2.1

noncomputable def rokk.G : Gam := gnil
noncomputable def rokk.an : Ann := {
  objs := [],
  loops := fun r => { keep := [], sites := [], frz := [], data := [], owns := [] },
  outs := fun r b => { keep := [], sites := [], frz := [], data := [], owns := [] },
  sums := fun r => none,
  owns := [],
  trim := [],
  res := [] }
theorem rokk.eq {R : Type} (o0 : ((List Int) × (Bool × Unit))) (k : GRes → Option R) : arun Tryz.prog rokk.G rokk.an 0 Tryz.f79 (rokk.st o0).1 (rokk.st o0).2 k =
  k (rokk.out (o0, (!o0.2.1))) := by kernel_rfl


theorem rokk.ok : ∀ d, rokk.Pre d → arun Tryz.prog rokk.G rokk.an 0 Tryz.f79 (rokk.st d).1 (rokk.st d).2 some = some (rokk.out (rokk.add d (rokk.F d))) := by
  intro o _
  rw [rokk.eq]
  rfl

theorem rokk.inj : ∀ d d', rokk.st d = rokk.st d' → d = d' := fun o0 o0' hEq => by
  have e0 : o0 = o0' := d_inj (t := (.pair (.slice (.int .u8)) (.pair .bool .unit))) (congrArg (fun s : List AVal × List Ent => (entD (s.2.getD 0 .dead))) hEq)
  rw [e0]
noncomputable def rokk.E : Entry := Entry.of [none] rokk.st rokk.Pre (fun d => rokk.add d (rokk.F d)) rokk.out
noncomputable def rokk.call : rokk.D → Option rokk.X := fun d => rokk.E.run (rokk.st d).1 (rokk.st d).2
theorem rokk.run {d : rokk.D} (h : rokk.Pre d) : rokk.call d = some (rokk.add d (rokk.F d)) := Entry.of_run rokk.inj h
theorem rokk.does : Does Tryz.prog 79 rokk.E := Does.of (by kernel_rfl) (show Sound _ rokk.G from Sound.nil _) (by kernel_rfl) (by kernel_rfl) (by kernel_rfl) (LOk.fn 0 (by kernel_rfl) trivial) rokk.ok

/-! ### (*corsned/code.Reader).take -/
abbrev rtake.D := Int × ((List Int) × (Bool × Unit))
def rtake.st : rtake.D → List AVal × List Ent := fun (n, o0) => ([.ptr (.old 0) 0 [] 0, .d (.int .i64) n], [.obj 0 false (.d (.pair (.slice (.int .u8)) (.pair .bool .unit)) o0)])
abbrev rtake.Y := (List Int) × ((List Int) × (Bool × Unit))
abbrev rtake.X := (List Int) × ((List Int) × (Bool × Unit))
def rtake.out : rtake.X → GRes := fun x => ⟨.d (.slice (.int .u8)) x.1, [.obj 0 false (.d (.pair (.slice (.int .u8)) (.pair .bool .unit)) x.2)], []⟩
def rtake.add : rtake.D → rtake.Y → rtake.X := fun (n, o0) y => y


def rtake.Pre : rtake.D → Prop := fun (n, o) => 0 ≤ n ∧ o.1.length ≤ 1000000000
def rtake.F : rtake.D → rtake.Y := fun (n, o) => takeR n.toNat o

noncomputable def rtake.G : Gam := gcons 113 anyArgs rfail.E (gcons 108 anyArgs clone8.E (gnil))
noncomputable def rtake.an : Ann := {
  objs := [],
  loops := fun r => { keep := [], sites := [], frz := [], data := [], owns := [] },
  outs := fun r b => { keep := [], sites := [], frz := [], data := [], owns := [] },
  sums := fun r => none,
  owns := [],
  trim := [],
  res := [some (.slice (.int .u8))],
  dats := [⟨0, [.arr], (.pair (.slice (.int .u8)) (.pair .bool .unit))⟩] }
theorem rtake.eq {R : Type} (n : Int) (o0 : ((List Int) × (Bool × Unit))) (k : GRes → Option R) : arun Tryz.prog rtake.G rtake.an 0 Tryz.f114 (rtake.st (n, o0)).1 (rtake.st (n, o0)).2 k =
  sel (o0.2.1) (
   obind (rfail.call o0) fun x1 =>
   k (rtake.out (([] : List Int), x1))) (
   sel ((igt n (((List.length o0.1) : Nat) : Int))) (
    obind (rfail.call o0) fun x2 =>
    k (rtake.out (([] : List Int), x2))) (
    sel (inc n (((List.length o0.1) : Nat) : Int)) (
    obind (clone8.call (cut o0.1 0 ((Int.toNat n) - 0))) fun x3 =>
    sel (inc n (((List.length o0.1) : Nat) : Int)) (
    sel (decide (0 = 0 ∧ (0 + x3.1) ≤ (List.length x3.2))) (
    k (rtake.out ((cut x3.2 0 x3.1), ((cut o0.1 (Int.toNat n) ((List.length o0.1) - (Int.toNat n))), o0.2)))) none) none) none)) := by kernel_rfl


theorem rtake.ok : ∀ d, rtake.Pre d → arun Tryz.prog rtake.G rtake.an 0 Tryz.f114 (rtake.st d).1 (rtake.st d).2 some = some (rtake.out (rtake.add d (rtake.F d))) := by
  rintro ⟨n, o⟩ ⟨h0, hl⟩
  have h0 : 0 ≤ n := h0
  have hl : o.1.length ≤ 1000000000 := hl
  obtain ⟨k, rfl⟩ : ∃ k : Nat, n = k := ⟨n.toNat, by omega⟩
  rw [rtake.eq]
  simp only [rtake.add, rtake.F, takeR, Int.toNat_natCast, Nat.sub_zero]
  cases h2 : o.2.1
  · by_cases hn : o.1.length < k
    · rw [igt_true (by omega), if_pos (Or.inr hn), rfail.run (d := o) trivial]; rfl
    · have e1 : cut o.1 0 k = o.1.take k := rfl
      have e2 : cut o.1 k (o.1.length - k) = o.1.drop k := by unfold cut; rw [List.take_of_length_le]; rw [List.length_drop]; omega
      rw [igt_false (by omega), if_neg (by intro x; rcases x with x | x; exact absurd x (by decide); exact hn x), inc_true (by omega) (by omega), e1, e2, clone8.run (d := o.1.take k) (by show (o.1.take k).length ≤ _; rw [List.length_take]; omega)]
      simp only [sel_false, sel_true, obind_some, clone8.add, clone8.F, Nat.zero_add, Nat.le_refl, and_self, decide_true, cut_len]
  · rw [sel_true, if_pos (Or.inl rfl), rfail.run (d := o) trivial]; rfl

theorem rtake.inj : ∀ d d', rtake.st d = rtake.st d' → d = d' := fun (n, o0) (n', o0') hEq => by
  have e0 : n = n' := d_inj (t := (.int .i64)) (congrArg (fun s : List AVal × List Ent => (s.1.getD 1 .undef)) hEq)
  have e1 : o0 = o0' := d_inj (t := (.pair (.slice (.int .u8)) (.pair .bool .unit))) (congrArg (fun s : List AVal × List Ent => (entD (s.2.getD 0 .dead))) hEq)
  rw [e0, e1]
noncomputable def rtake.E : Entry := Entry.of [none, some (.int .i64)] rtake.st rtake.Pre (fun d => rtake.add d (rtake.F d)) rtake.out
noncomputable def rtake.call : rtake.D → Option rtake.X := fun d => rtake.E.run (rtake.st d).1 (rtake.st d).2
theorem rtake.run {d : rtake.D} (h : rtake.Pre d) : rtake.call d = some (rtake.add d (rtake.F d)) := Entry.of_run rtake.inj h
theorem rtake.does : Does Tryz.prog 114 rtake.E := Does.of (by kernel_rfl) (show Sound _ rtake.G from Sound.cons rfail.does (Sound.cons clone8.does (Sound.nil _))) (by kernel_rfl) (by kernel_rfl) (by kernel_rfl) (LOk.fn 0 (by kernel_rfl) trivial) rtake.ok

/-! ### (*corsned/code.Reader).U64 -/
abbrev ru64.L0.D := Int × (List Int) × Int × Int × ((List Int) × (Bool × Unit))
def ru64.L0.st : ru64.L0.D → AS := fun (n, t7, t8, t9, o0_2) => ⟨([.undef, .undef, .undef, .d (.int .u64) n, .undef, .undef, .undef, .d (.slice (.int .u8)) t7, .d (.int .i64) t8, .d (.int .i64) t9] ++ undN 10 []), [.obj 0 false (.d (.pair (.slice (.int .u8)) (.pair .bool .unit)) o0_2)], (List.replicate 20 [])⟩
abbrev ru64.L0.Y0 := Int  -- n
abbrev ru64.L0.X0 := (((List Int) × (Bool × Unit))) × (Int)
def ru64.L0.ex0 : ru64.L0.X0 → Exit × AS := fun x => (.exit 0, ⟨([.undef, .undef, .undef, .d (.int .u64) x.2] ++ undN 16 []), [.obj 0 false (.d (.pair (.slice (.int .u8)) (.pair .bool .unit)) x.1)], (List.replicate 20 [])⟩)
abbrev ru64.L0.X := ru64.L0.X0
abbrev ru64.L0.Y := ru64.L0.Y0
def ru64.L0.out : ru64.L0.X → Out (Exit × AS) := fun x => .ok (ru64.L0.ex0 x)
def ru64.L0.add : ru64.L0.D → ru64.L0.Y → ru64.L0.X := fun (n, t7, t8, t9, o0_2) y => (o0_2, y)
abbrev ru64.D := ((List Int) × (Bool × Unit))
def ru64.st : ru64.D → List AVal × List Ent := fun o0 => ([.ptr (.old 0) 0 [] 0], [.obj 0 false (.d (.pair (.slice (.int .u8)) (.pair .bool .unit)) o0)])
abbrev ru64.Y := Int × ((List Int) × (Bool × Unit))
abbrev ru64.X := Int × ((List Int) × (Bool × Unit))
def ru64.out : ru64.X → GRes := fun x => ⟨.d (.int .u64) x.1, [.obj 0 false (.d (.pair (.slice (.int .u8)) (.pair .bool .unit)) x.2)], []⟩
def ru64.add : ru64.D → ru64.Y → ru64.X := fun o0 y => y


def ru64.L0.Pre : ru64.L0.D → Prop := fun (n, l, m, i, o) => Bytes l ∧ l.length ≤ 8 ∧ m = l.length ∧ ∃ k : Nat, k ≤ l.length ∧ i = k ∧ n = num8 (l.take k)
def ru64.L0.F : ru64.L0.D → ru64.L0.Y := fun (n, l, m, i, o) => num8 l
def ru64.Pre : ru64.D → Prop := fun o => RdrB o
def ru64.F : ru64.D → ru64.Y := fun o => u64R o

noncomputable def ru64.G : Gam := gcons 114 anyArgs rtake.E (gnil)
noncomputable def ru64.L0.E : LEntry := LEntry.of ru64.L0.st ru64.L0.Pre (fun d => ru64.L0.add d (ru64.L0.F d)) ru64.L0.out
noncomputable def ru64.L0.call : ru64.L0.D → Option ru64.L0.X := fun d => ru64.L0.E.run (ru64.L0.st d)
noncomputable def ru64.an : Ann := {
  objs := [],
  loops := fun r => bif Nat.beq r 3 then { keep := [3, 7, 8, 9], sites := [], frz := [], data := [], owns := [] } else { keep := [], sites := [], frz := [], data := [], owns := [] },
  outs := fun r b => bif Nat.beq r 3 then (bif b then { keep := [2], sites := [], frz := [], data := [], owns := [] } else { keep := [3], sites := [], frz := [], data := [], owns := [] }) else { keep := [], sites := [], frz := [], data := [], owns := [] },
  sums := fun r => bif Nat.beq r 3 then some ru64.L0.E else none,
  owns := [],
  trim := [],
  res := [] }
theorem ru64.L0.inj : ∀ d d', ru64.L0.st d = ru64.L0.st d' → d = d' := fun (n, t7, t8, t9, o0_2) (n', t7', t8', t9', o0_2') hEq => by
  have e0 : n = n' := d_inj (t := (.int .u64)) (congrArg (fun s : AS => (s.slot 3)) hEq)
  have e1 : t7 = t7' := d_inj (t := (.slice (.int .u8))) (congrArg (fun s : AS => (s.slot 7)) hEq)
  have e2 : t8 = t8' := d_inj (t := (.int .i64)) (congrArg (fun s : AS => (s.slot 8)) hEq)
  have e3 : t9 = t9' := d_inj (t := (.int .i64)) (congrArg (fun s : AS => (s.slot 9)) hEq)
  have e4 : o0_2 = o0_2' := d_inj (t := (.pair (.slice (.int .u8)) (.pair .bool .unit))) (congrArg (fun s : AS => (entC (s.ent (.old 0)))) hEq)
  rw [e0, e1, e2, e3, e4]
theorem ru64.L0.run {d : ru64.L0.D} (h : ru64.L0.Pre d) : ru64.L0.call d = some (ru64.L0.add d (ru64.L0.F d)) := LEntry.of_run ru64.L0.inj h
theorem ru64.L0.byRounds (μ : ru64.L0.D → Nat) (h : ∀ d, ru64.L0.Pre d → (∃ d', ru64.L0.Pre d' ∧ μ d' < μ d ∧ ru64.L0.add d' (ru64.L0.F d') = ru64.L0.add d (ru64.L0.F d) ∧ ∀ {R : Type} (kn : AS → Option R) (kx : Exit → AS → Option R), lround Tryz.prog ru64.G ru64.an 0 Tryz.f57 0 (ru64.L0.st d) kn kx = kn (ru64.L0.st d')) ∨ (∀ {R : Type} (kn : AS → Option R) (kx : Exit → AS → Option R), lround Tryz.prog ru64.G ru64.an 0 Tryz.f57 0 (ru64.L0.st d) kn kx = kx (ru64.L0.ex0 (ru64.L0.add d (ru64.L0.F d))).1 (ru64.L0.ex0 (ru64.L0.add d (ru64.L0.F d))).2)) : ∀ d, ru64.L0.Pre d → ∃ n, lrun Tryz.prog ru64.G ru64.an 0 Tryz.f57 0 n (ru64.L0.st d) (fun e s => some (e, s)) = (ru64.L0.out (ru64.L0.add d (ru64.L0.F d))).eval := lrun_one (F := fun d => ru64.L0.add d (ru64.L0.F d)) μ h
theorem ru64.L0.step {R : Type} (n : Int) (t7 : (List Int)) (t8 : Int) (t9 : Int) (o0_2 : ((List Int) × (Bool × Unit))) (kn : AS → Option R) (kx : Exit → AS → Option R) : lround Tryz.prog ru64.G ru64.an 0 Tryz.f57 0 (ru64.L0.st (n, t7, t8, t9, o0_2)) kn kx =
  sel ((ilt t9 t8)) (
   sel (inb t9 (((List.length t7) : Nat) : Int)) (
   kn (ru64.L0.st ((bitop .or .u64 (ishl .u64 n (8 : Int)) (icv .u64 (nth (.int .u8) t7 (Int.toNat t9)))), t7, t8, (iadd .i64 t9 (1 : Int)), o0_2))) none) (
   kx (ru64.L0.ex0 (o0_2, n)).1 (ru64.L0.ex0 (o0_2, n)).2) := by kernel_rfl
theorem ru64.eq {R : Type} (o0 : ((List Int) × (Bool × Unit))) (k : GRes → Option R) : arun Tryz.prog ru64.G ru64.an 0 Tryz.f57 (ru64.st o0).1 (ru64.st o0).2 k =
  obind (rtake.call ((8 : Int), o0)) fun x1 =>
  obind (ru64.L0.call ((0 : Int), x1.1, (((List.length x1.1) : Nat) : Int), (0 : Int), x1.2)) fun x2 =>
  k (ru64.out (x2.2, x2.1)) := by kernel_rfl


theorem ru64.L0.ok : ∀ d, ru64.L0.Pre d → ∃ n, lrun Tryz.prog ru64.G ru64.an 0 Tryz.f57 0 n (ru64.L0.st d) (fun e s => some (e, s)) = (ru64.L0.out (ru64.L0.add d (ru64.L0.F d))).eval := by
  refine ru64.L0.byRounds (fun (n, l, m, i, o) => l.length - i.toNat) ?_
  rintro ⟨n, l, m, i, o⟩ ⟨hb, h8, rfl, k, hk, rfl, rfl⟩
  have h8 : l.length ≤ 8 := h8
  have hk : k ≤ l.length := hk
  by_cases h : k < l.length
  · left
    have hx := hb _ (List.getElem_mem h)
    have n1 : nth (.int .u8) l k = l[k] := nth_lt (t := .int .u8) h
    have ht : (l.take k).length = k := by rw [List.length_take]; omega
    have b0 := num8_ok (l := l.take k) fun x hx => hb x (List.mem_of_mem_take hx)
    rw [ht] at b0
    have b1 := pow256_le (show k ≤ 7 by omega)
    have b2 : (256 : Int) ^ 7 = 72057594037927936 := rfl
    refine ⟨(num8 (l.take (k + 1)), l, l.length, ((k + 1 : Nat) : Int), o), ⟨hb, h8, rfl, k + 1, by omega, rfl, rfl⟩, by simp only [Int.toNat_natCast]; omega, rfl, fun kn kx => ?_⟩
    rw [ru64.L0.step, ilt_true (by omega), inb_true (by omega) (by omega), Int.toNat_natCast, n1, N.aNL (by omega), step8 b0.1 (by omega) hx, List.take_succ_eq_append_getElem h, num8_snoc]
    rfl
  · right
    obtain rfl : k = l.length := by omega
    intro R kn kx
    rw [ru64.L0.step, ilt_false (by omega), sel_false, List.take_length]
    rfl
theorem ru64.ok : ∀ d, ru64.Pre d → arun Tryz.prog ru64.G ru64.an 0 Tryz.f57 (ru64.st d).1 (ru64.st d).2 some = some (ru64.out (ru64.add d (ru64.F d))) := by
  intro o h
  have h : RdrB o := h
  have t := takeR_b (n := 8) h
  rw [ru64.eq, rtake.run (d := (8, o)) ⟨by decide, h.1⟩]
  simp only [obind_some, rtake.add, rtake.F]
  rw [show Int.toNat 8 = 8 from rfl, ru64.L0.run (d := (0, (takeR 8 o).1, (takeR 8 o).1.length, 0, (takeR 8 o).2)) ⟨t.2.1, t.1, rfl, 0, Nat.zero_le _, rfl, rfl⟩]
  rfl

theorem ru64.inj : ∀ d d', ru64.st d = ru64.st d' → d = d' := fun o0 o0' hEq => by
  have e0 : o0 = o0' := d_inj (t := (.pair (.slice (.int .u8)) (.pair .bool .unit))) (congrArg (fun s : List AVal × List Ent => (entD (s.2.getD 0 .dead))) hEq)
  rw [e0]
noncomputable def ru64.E : Entry := Entry.of [none] ru64.st ru64.Pre (fun d => ru64.add d (ru64.F d)) ru64.out
noncomputable def ru64.call : ru64.D → Option ru64.X := fun d => ru64.E.run (ru64.st d).1 (ru64.st d).2
theorem ru64.run {d : ru64.D} (h : ru64.Pre d) : ru64.call d = some (ru64.add d (ru64.F d)) := Entry.of_run ru64.inj h
theorem ru64.does : Does Tryz.prog 57 ru64.E := Does.of (by kernel_rfl) (show Sound _ ru64.G from Sound.cons rtake.does (Sound.nil _)) (by kernel_rfl) (by kernel_rfl) (by kernel_rfl) (LOk.fn 1 (by kernel_rfl) (And.intro (LDo.of (by kernel_rfl) ru64.L0.ok) trivial)) ru64.ok

/-! ### corsned/code.Open -/
abbrev ropen.D := (List Int)
def ropen.st : ropen.D → List AVal × List Ent := fun b => ([.d (.slice (.int .u8)) b], [])
abbrev ropen.Y := ((List Int) × (Bool × Unit))
abbrev ropen.X := ((List Int) × (Bool × Unit))
def ropen.out : ropen.X → GRes := fun x => ⟨.ptr (.new 0 0) 0 [] 0, [], [.obj 0 false (.d (.pair (.slice (.int .u8)) (.pair .bool .unit)) x)]⟩
def ropen.add : ropen.D → ropen.Y → ropen.X := fun b y => y


def ropen.Pre : ropen.D → Prop := fun b => b.length ≤ 1000000000
def ropen.F : ropen.D → ropen.Y := fun b => (b, false, ())

noncomputable def ropen.G : Gam := gcons 108 anyArgs clone8.E (gnil)
noncomputable def ropen.an : Ann := {
  objs := [6],
  loops := fun r => { keep := [], sites := [], frz := [], data := [], owns := [] },
  outs := fun r b => { keep := [], sites := [], frz := [], data := [], owns := [] },
  sums := fun r => none,
  owns := [],
  trim := [],
  res := [],
  dats := [⟨2, [.arr], (.pair (.slice (.int .u8)) (.pair .bool .unit))⟩] }
theorem ropen.eq {R : Type} (b : (List Int)) (k : GRes → Option R) : arun Tryz.prog ropen.G ropen.an 0 Tryz.f55 (ropen.st b).1 (ropen.st b).2 k =
  obind (clone8.call b) fun x1 =>
  sel (decide (0 = 0 ∧ (0 + x1.1) ≤ (List.length x1.2))) (
  k (ropen.out ((cut x1.2 0 x1.1), (false, ())))) none := by kernel_rfl


theorem ropen.ok : ∀ d, ropen.Pre d → arun Tryz.prog ropen.G ropen.an 0 Tryz.f55 (ropen.st d).1 (ropen.st d).2 some = some (ropen.out (ropen.add d (ropen.F d))) := by
  intro b hb
  have hb : b.length ≤ 1000000000 := hb
  rw [ropen.eq, clone8.run (d := b) (by show b.length ≤ _; omega)]
  simp only [obind_some, clone8.add, clone8.F, Nat.zero_add, Nat.le_refl, and_self, decide_true, sel_true, cut_len]
  rfl

theorem ropen.inj : ∀ d d', ropen.st d = ropen.st d' → d = d' := fun b b' hEq => by
  have e0 : b = b' := d_inj (t := (.slice (.int .u8))) (congrArg (fun s : List AVal × List Ent => (s.1.getD 0 .undef)) hEq)
  rw [e0]
noncomputable def ropen.E : Entry := Entry.of [some (.slice (.int .u8))] ropen.st ropen.Pre (fun d => ropen.add d (ropen.F d)) ropen.out
noncomputable def ropen.call : ropen.D → Option ropen.X := fun d => ropen.E.run (ropen.st d).1 (ropen.st d).2
theorem ropen.run {d : ropen.D} (h : ropen.Pre d) : ropen.call d = some (ropen.add d (ropen.F d)) := Entry.of_run ropen.inj h
theorem ropen.does : Does Tryz.prog 55 ropen.E := Does.of (by kernel_rfl) (show Sound _ ropen.G from Sound.cons clone8.does (Sound.nil _)) (by kernel_rfl) (by kernel_rfl) (by kernel_rfl) (LOk.fn 0 (by kernel_rfl) trivial) ropen.ok

/-! ### (*corsned/code.Reader).Num$1 -/
abbrev rwrong.D := Int × ((List Int) × (Bool × Unit))
def rwrong.st : rwrong.D → List AVal × List Ent := fun (o0, o2) => ([.ptr (.old 0) 0 [] 0, .ptr (.old 1) 0 [] 0], [.obj 0 false (.d (.int .i64) o0), .obj 0 false (.ptr (.old 2) 0 [] 0), .obj 0 false (.d (.pair (.slice (.int .u8)) (.pair .bool .unit)) o2)])
abbrev rwrong.Y := Bool
abbrev rwrong.X := (Int × ((List Int) × (Bool × Unit))) × (Bool)
def rwrong.out : rwrong.X → GRes := fun x => ⟨.d .bool x.2, [.obj 0 false (.d (.int .i64) x.1.1), .obj 0 false (.ptr (.old 2) 0 [] 0), .obj 0 false (.d (.pair (.slice (.int .u8)) (.pair .bool .unit)) x.1.2)], []⟩
def rwrong.add : rwrong.D → rwrong.Y → rwrong.X := fun (o0, o2) y => ((o0, o2), y)


def rwrong.Pre : rwrong.D → Prop := fun (a, o) => 0 ≤ a
def rwrong.F : rwrong.D → rwrong.Y := fun (a, o) => decide (o.1.length ≤ a.toNat ∨ 8 < a.toNat ∨ (0 < a.toNat ∧ nth (.int .u8) o.1 a.toNat = 0))

noncomputable def rwrong.G : Gam := gnil
noncomputable def rwrong.an : Ann := {
  objs := [],
  loops := fun r => { keep := [], sites := [], frz := [], data := [], owns := [] },
  outs := fun r b => { keep := [], sites := [], frz := [], data := [], owns := [] },
  sums := fun r => none,
  owns := [],
  trim := [],
  res := [] }
theorem rwrong.eq {R : Type} (o0 : Int) (o2 : ((List Int) × (Bool × Unit))) (k : GRes → Option R) : arun Tryz.prog rwrong.G rwrong.an 0 Tryz.f112 (rwrong.st (o0, o2)).1 (rwrong.st (o0, o2)).2 k =
  sel ((ige o0 (((List.length o2.1) : Nat) : Int))) (
   k (rwrong.out ((o0, o2), true))) (
   sel ((igt o0 (8 : Int))) (
    k (rwrong.out ((o0, o2), true))) (
    sel ((igt o0 (0 : Int))) (
     sel (inb o0 (((List.length o2.1) : Nat) : Int)) (
     k (rwrong.out ((o0, o2), (ieq (nth (.int .u8) o2.1 (Int.toNat o0)) (0 : Int))))) none) (
     k (rwrong.out ((o0, o2), false))))) := by kernel_rfl


theorem rwrong.ok : ∀ d, rwrong.Pre d → arun Tryz.prog rwrong.G rwrong.an 0 Tryz.f112 (rwrong.st d).1 (rwrong.st d).2 some = some (rwrong.out (rwrong.add d (rwrong.F d))) := by
  rintro ⟨a, o⟩ h0
  obtain ⟨k, rfl⟩ : ∃ k : Nat, a = k := ⟨a.toNat, by have h0 : 0 ≤ a := h0; omega⟩
  rw [rwrong.eq]
  simp only [rwrong.add, rwrong.F, Int.toNat_natCast]
  by_cases h1 : o.1.length ≤ k
  · rw [ige_true (by omega), dec_true (Or.inl h1)]; rfl
  by_cases h2 : 8 < k
  · rw [ige_false (by omega), igt_true (by omega), dec_true (Or.inr (Or.inl h2))]; rfl
  by_cases h3 : 0 < k
  · rw [ige_false (by omega), igt_false (by omega), igt_true (by omega), inb_true (by omega) (by omega)]
    simp only [sel_false, sel_true]
    by_cases h4 : nth (.int .u8) o.1 k = 0
    · rw [ieq_true h4, dec_true (Or.inr (Or.inr ⟨h3, h4⟩))]
    · rw [ieq_false h4, dec_false (by rintro (x | x | x); exact h1 x; exact h2 x; exact h4 x.2)]
  · rw [ige_false (by omega), igt_false (by omega), igt_false (by omega), dec_false (by rintro (x | x | x); exact h1 x; exact h2 x; exact h3 x.1)]; rfl

theorem rwrong.inj : ∀ d d', rwrong.st d = rwrong.st d' → d = d' := fun (o0, o2) (o0', o2') hEq => by
  have e0 : o0 = o0' := d_inj (t := (.int .i64)) (congrArg (fun s : List AVal × List Ent => (entD (s.2.getD 0 .dead))) hEq)
  have e1 : o2 = o2' := d_inj (t := (.pair (.slice (.int .u8)) (.pair .bool .unit))) (congrArg (fun s : List AVal × List Ent => (entD (s.2.getD 2 .dead))) hEq)
  rw [e0, e1]
noncomputable def rwrong.E : Entry := Entry.of [none, none] rwrong.st rwrong.Pre (fun d => rwrong.add d (rwrong.F d)) rwrong.out
noncomputable def rwrong.call : rwrong.D → Option rwrong.X := fun d => rwrong.E.run (rwrong.st d).1 (rwrong.st d).2
theorem rwrong.run {d : rwrong.D} (h : rwrong.Pre d) : rwrong.call d = some (rwrong.add d (rwrong.F d)) := Entry.of_run rwrong.inj h
theorem rwrong.does : Does Tryz.prog 112 rwrong.E := Does.of (by kernel_rfl) (show Sound _ rwrong.G from Sound.nil _) (by kernel_rfl) (by kernel_rfl) (by kernel_rfl) (LOk.fn 0 (by kernel_rfl) trivial) rwrong.ok

end Go.Ab
namespace Go.Ab
open Go.Proofs
set_option maxRecDepth 100000
set_option linter.unusedVariables false
set_option linter.unusedSimpArgs false


/-- A number that stands next: its value, and how many digits it has. -/
def numF : List Int → Nat → Int → (Int × Nat) ⊕ Unit
  | [], _, _ => .inr ()
  | d :: l, a, n => if 8 < a ∨ (0 < a ∧ d = 0) then .inr () else if d < 128 then .inl (n + d % 128 * 128 ^ a, a + 1) else numF l (a + 1) (n + d % 128 * 128 ^ a)
def numR (r : Rdr) : Int × Rdr := match numF r.1 0 0 with | .inl v => (v.1, (r.1.drop v.2, r.2)) | .inr _ => (0, failR)
theorem pow128 (k : Nat) : (128 : Int) ^ k = ((128 ^ k : Nat) : Int) := by rw [Int.natCast_pow]; rfl
theorem digit_or {n d k : Nat} (hk : k ≤ 8) (hn : n < 128 ^ k) (hd : d < 128) : bitop .or .i64 (n : Int) (ishl .i64 (d : Int) ((7 * k : Nat) : Int)) = ((n + d * 128 ^ k : Nat) : Int) ∧ n + d * 128 ^ k < 128 ^ (k + 1) ∧ 128 ^ (k + 1) ≤ 9223372036854775808 := by
  have p : 128 ^ k ≤ 128 ^ 8 := Nat.pow_le_pow_right (by decide) hk
  have p8 : 128 ^ 8 = 72057594037927936 := rfl
  have e1 : 128 ^ (k + 1) = 128 ^ k * 128 := Nat.pow_succ (n := 128) (m := k)
  have e2 : 2 ^ (7 * k) = 128 ^ k := by rw [Nat.pow_mul]
  have e3 : d * 128 ^ k ≤ 127 * 128 ^ k := Nat.mul_le_mul_right _ (by omega)
  refine ⟨?_, by omega, by omega⟩
  have s : ishl .i64 (d : Int) ((7 * k : Nat) : Int) = ((d * 128 ^ k : Nat) : Int) := by
    rw [ishl]
    have e : min (Int.toNat ((7 * k : Nat) : Int)) IntKind.i64.bits = 7 * k := by simp only [IntKind.bits, Int.toNat_natCast]; omega
    rw [e, show (2 : Int) ^ (7 * k) = ((2 ^ (7 * k) : Nat) : Int) by rw [Int.natCast_pow]; rfl, e2, ← Int.natCast_mul]
    exact i64_wrap (by omega) (by omega)
  rw [s]
  have e : (BitVec.ofInt 64 (n : Int) ||| BitVec.ofInt 64 ((d * 128 ^ k : Nat) : Int)).toNat = n + d * 128 ^ k := by
    rw [BitVec.toNat_or]
    have a : (BitVec.ofInt 64 ((d * 128 ^ k : Nat) : Int)).toNat = 2 ^ (7 * k) * d := by rw [BitVec.ofInt_natCast, BitVec.toNat_ofNat, e2, Nat.mul_comm]; exact Nat.mod_eq_of_lt (by rw [Nat.mul_comm]; omega)
    have b : (BitVec.ofInt 64 (n : Int)).toNat = n := by rw [BitVec.ofInt_natCast, BitVec.toNat_ofNat]; exact Nat.mod_eq_of_lt (by omega)
    rw [a, b, Nat.or_comm, ← Nat.two_pow_add_eq_or_of_lt (by rw [e2]; exact hn), e2, Nat.mul_comm]
    omega
  show IntKind.i64.wrap ((BitVec.ofInt 64 (n : Int) ||| BitVec.ofInt 64 ((d * 128 ^ k : Nat) : Int)).toNat : Int) = _
  rw [e]
  exact i64_wrap (by omega) (by omega)
theorem numF_ok : ∀ (l : List Int) (a : Nat) (n : Int) (v : Int × Nat), Bytes l → a ≤ 9 → 0 ≤ n → n < 128 ^ a → numF l a n = .inl v → 0 ≤ v.1 ∧ v.1 < 9223372036854775808 ∧ a < v.2 ∧ v.2 ≤ a + l.length ∧ v.2 ≤ 9
  | [], a, n, v, _, _, _, _, h => by cases h
  | d :: l, a, n, v, hb, ha, h0, h1, h => by
    have hx := hb d List.mem_cons_self
    obtain ⟨x1, x2⟩ := hx
    rw [numF] at h
    split at h
    · cases h
    · rename_i hc
      have ha8 : a ≤ 8 := by omega
      rw [pow128] at h1 h
      obtain ⟨nn, rfl⟩ : ∃ m : Nat, n = m := ⟨n.toNat, by omega⟩
      obtain ⟨dn, hdn⟩ : ∃ m : Nat, d % 128 = m := ⟨(d % 128).toNat, by omega⟩
      have g := (digit_or (n := nn) (d := dn) ha8 (by omega) (by omega)).2
      rw [hdn] at h
      have ec : ((nn : Int) + (dn : Int) * ((128 ^ a : Nat) : Int)) = ((nn + dn * 128 ^ a : Nat) : Int) := by rw [Int.natCast_add, Int.natCast_mul]
      rw [ec] at h
      split at h
      · cases h
        simp only [List.length_cons]
        exact ⟨by omega, by omega, by omega, by omega, by omega⟩
      · have := numF_ok l (a + 1) _ v (fun x hx => hb x (List.mem_cons_of_mem _ hx)) (by omega) (by omega) (by rw [pow128]; omega) h
        simp only [List.length_cons]
        exact ⟨this.1, this.2.1, by omega, by omega, this.2.2.2.2⟩
theorem numR_ok {r : Rdr} (h : RdrB r) : 0 ≤ (numR r).1 ∧ (numR r).1 ≤ 9223372036854775807 ∧ RdrB (numR r).2 := by
  unfold numR
  cases hf : numF r.1 0 0 with
  | inl v =>
    have := numF_ok r.1 0 0 v h.2 (by decide) (by decide) (by decide) hf
    refine ⟨this.1, by have := this.2.1; show v.1 ≤ _; omega, ?_, fun x hx => h.2 x (List.mem_of_mem_drop hx)⟩
    show (r.1.drop v.2).length ≤ _
    rw [List.length_drop]
    have := h.1
    omega
  | inr _ => exact ⟨Int.le_refl 0, (show (0 : Int) ≤ 9223372036854775807 by decide), failR_b⟩
/-- What was laid is read. -/
theorem numF_row : ∀ (f : Nat) (n : Int) (a : Nat) (m : Int) (rest : List Int), 0 ≤ n → n < 128 ^ (f + 1) → a + f ≤ 8 → (a = 0 ∨ 0 < n) →
    numF ((rowI f n).1 ++ (rowI f n).2 :: rest) a m = .inl (m + n * 128 ^ a, a + (rowI f n).1.length + 1)
  | 0, n, a, m, rest, h0, h1, ha, hp => by
    have h1 : n < 128 := h1
    show numF (n :: rest) a m = _
    rw [numF, if_neg (by omega), if_pos h1, Int.emod_eq_of_lt h0 h1]
    rfl
  | f + 1, n, a, m, rest, h0, h1, ha, hp => by
    rw [rowI]
    have e : (128 : Int) ^ (f + 1 + 1) = 128 ^ (f + 1) * 128 := Int.pow_succ 128 (f + 1)
    split
    · rename_i h
      show numF ((n % 128 + 128) :: ((rowI f (n / 128)).1 ++ (rowI f (n / 128)).2 :: rest)) a m = _
      rw [numF, if_neg (by omega), if_neg (by omega), numF_row f (n / 128) (a + 1) _ rest (by omega) (by omega) (by omega) (Or.inr (by omega))]
      have e2 : (128 : Int) ^ (a + 1) = 128 ^ a * 128 := Int.pow_succ 128 a
      have e3 : (n % 128 + 128) % 128 = n % 128 := by omega
      have e4 : m + n % 128 * 128 ^ a + n / 128 * (128 ^ a * 128) = m + n * 128 ^ a := by
        have : n * 128 ^ a = (n % 128 + n / 128 * 128) * 128 ^ a := by rw [show n % 128 + n / 128 * 128 = n by omega]
        rw [this, Int.add_mul, Int.mul_assoc (n / 128), Int.mul_comm 128 (128 ^ a), Int.add_assoc]
      rw [e3, e2, e4]
      simp only [List.length_cons]
      rw [show a + 1 + (rowI f (n / 128)).1.length + 1 = a + ((rowI f (n / 128)).1.length + 1) + 1 by omega]
    · rename_i h
      show numF (n :: rest) a m = _
      rw [numF, if_neg (by omega), if_pos (by omega), Int.emod_eq_of_lt h0 (by omega)]
      rfl
theorem numR_row (n : Int) (h : NatI n) (rest : List Int) (u : Bool × Unit) : numR (rowN n ++ rest, u) = (n, (rest, u)) := by
  have h0 := h.1
  have h1 := h.2
  have e8 : (128 : Int) ^ (8 + 1) = 9223372036854775808 := rfl
  have e10 : (128 : Int) ^ (10 + 1) = 151115727451828646838272 := rfl
  have er : rowI 10 n = rowI 8 n := rowI_more 10 8 n (by rw [e10]; omega) (by rw [e8]; omega)
  have el : rowN n ++ rest = (rowI 8 n).1 ++ (rowI 8 n).2 :: rest := by unfold rowN; rw [er, List.append_assoc]; rfl
  have e := numF_row 8 n 0 0 rest h0 (by rw [e8]; omega) (by decide) (Or.inl rfl)
  unfold numR
  show (match numF (rowN n ++ rest) 0 0 with | .inl v => (v.1, ((rowN n ++ rest).drop v.2, u)) | .inr _ => (0, failR)) = _
  rw [el, e]
  show (0 + n * 128 ^ 0, (((rowI 8 n).1 ++ (rowI 8 n).2 :: rest).drop (0 + (rowI 8 n).1.length + 1), u)) = _
  rw [Int.pow_zero, Int.mul_one, Int.zero_add, Nat.zero_add, List.append_cons, List.drop_left' (by rw [List.length_append]; rfl)]
theorem num8_be8 (n : Int) (h : U64 n) : num8 (be8 n) = n := by
  obtain ⟨h0, h1⟩ := h
  unfold num8 be8
  simp only [List.foldl_cons, List.foldl_nil]
  omega
theorem u64R_be8 (n : Int) (h : U64 n) (rest : List Int) : u64R (be8 n ++ rest, false, ()) = (n, (rest, false, ())) := by
  unfold u64R takeR
  have l8 := be8_length n
  rw [if_neg (by
    intro x
    rcases x with x | x
    · have x : false = true := x
      cases x
    · have x : (be8 n ++ rest).length < 8 := x
      rw [List.length_append] at x
      omega)]
  show (num8 ((be8 n ++ rest).take 8), ((be8 n ++ rest).drop 8, false, ())) = _
  rw [List.take_left' l8, List.drop_left' l8, num8_be8 n h]

/-! ### (*corsned/code.Reader).Num -/
abbrev rnum.L0.D := Int × ((List Int) × (Bool × Unit)) × Int
def rnum.L0.st : rnum.L0.D → AS := fun (n, o0_2, n4) => ⟨([.ptr (.old 0) 0 [] 0, .ptr (.new 1 0) 0 [] 0, .undef, .d (.int .i64) n, .ptr (.new 4 0) 0 [] 0, .fn 112 (.cons (.ptr (.new 4 0) 0 [] 0) (.cons (.ptr (.new 1 0) 0 [] 0) (.nil)))] ++ undN 35 []), [.obj 0 false (.d (.pair (.slice (.int .u8)) (.pair .bool .unit)) o0_2)], ([[], [.obj 0 false (.ptr (.old 0) 0 [] 0)], [], [], [.obj 0 false (.d (.int .i64) n4)]] ++ nilN 36 [])⟩
abbrev rnum.L0.Y0 := ((List Int) × (Bool × Unit))  -- o0
abbrev rnum.L0.X0 := ((List Int) × (Bool × Unit))
def rnum.L0.ex0 : rnum.L0.X0 → Exit × AS := fun x => (.ret, ⟨([.ptr (.old 0) 0 [] 0, .undef, .d (.int .i64) (0 : Int)] ++ undN 38 []), [.obj 0 false (.d (.pair (.slice (.int .u8)) (.pair .bool .unit)) x)], (List.replicate 41 [])⟩)
abbrev rnum.L0.Y1 := Int × ((List Int) × (Bool × Unit)) × Int  -- n, o0, n4
abbrev rnum.L0.X1 := Int × ((List Int) × (Bool × Unit)) × Int
def rnum.L0.ex1 : rnum.L0.X1 → Exit × AS := fun x => (.exit 0, ⟨([.ptr (.old 0) 0 [] 0, .ptr (.new 1 0) 0 [] 0, .undef, .d (.int .i64) x.1, .ptr (.new 4 0) 0 [] 0] ++ undN 36 []), [.obj 0 false (.d (.pair (.slice (.int .u8)) (.pair .bool .unit)) x.2.1)], ([[], [.obj 0 false (.ptr (.old 0) 0 [] 0)], [], [], [.obj 0 false (.d (.int .i64) x.2.2)]] ++ nilN 36 [])⟩)
abbrev rnum.L0.X := (rnum.L0.X0) ⊕ (rnum.L0.X1)
abbrev rnum.L0.Y := (rnum.L0.Y0) ⊕ (rnum.L0.Y1)
def rnum.L0.out : rnum.L0.X → Out (Exit × AS) := fun x => .br x.isLeft (.get x.getLeft? fun a => .ok (rnum.L0.ex0 a)) (.get x.getRight? fun b => .ok (rnum.L0.ex1 b))
def rnum.L0.add : rnum.L0.D → rnum.L0.Y → rnum.L0.X := fun (n, o0_2, n4) y => match y with | .inl y => .inl y | .inr z => .inr (z)
abbrev rnum.D := ((List Int) × (Bool × Unit))
def rnum.st : rnum.D → List AVal × List Ent := fun o0 => ([.ptr (.old 0) 0 [] 0], [.obj 0 false (.d (.pair (.slice (.int .u8)) (.pair .bool .unit)) o0)])
abbrev rnum.Y := Int × ((List Int) × (Bool × Unit))
abbrev rnum.X := Int × ((List Int) × (Bool × Unit))
def rnum.out : rnum.X → GRes := fun x => ⟨.d (.int .i64) x.1, [.obj 0 false (.d (.pair (.slice (.int .u8)) (.pair .bool .unit)) x.2)], []⟩
def rnum.add : rnum.D → rnum.Y → rnum.X := fun o0 y => y


def rnum.L0.Pre : rnum.L0.D → Prop := fun (n, o, i) => RdrB o ∧ ∃ (k m : Nat), k ≤ 9 ∧ i = k ∧ n = m ∧ m < 128 ^ k
def rnum.L0.F : rnum.L0.D → rnum.L0.Y := fun (n, o, i) => match numF (o.1.drop i.toNat) i.toNat n with | .inl v => .inr (v.1, o, (v.2 : Int)) | .inr _ => .inl failR
def rnum.Pre : rnum.D → Prop := fun o => RdrB o
def rnum.F : rnum.D → rnum.Y := fun o => numR o

noncomputable def rnum.G : Gam := gcons 112 anyArgs rwrong.E (gcons 113 anyArgs rfail.E (gnil))
noncomputable def rnum.L0.E : LEntry := LEntry.of rnum.L0.st rnum.L0.Pre (fun d => rnum.L0.add d (rnum.L0.F d)) rnum.L0.out
noncomputable def rnum.L0.call : rnum.L0.D → Option rnum.L0.X := fun d => rnum.L0.E.run (rnum.L0.st d)
noncomputable def rnum.an : Ann := {
  objs := [1],
  loops := fun r => bif Nat.beq r 3 then { keep := [0, 1, 3, 4, 5], sites := [1, 4], frz := [], data := [], owns := [] } else { keep := [], sites := [], frz := [], data := [], owns := [] },
  outs := fun r b => bif Nat.beq r 3 then (bif b then { keep := [0, 2], sites := [], frz := [], data := [], owns := [] } else { keep := [0, 1, 3, 4], sites := [1, 4], frz := [], data := [], owns := [] }) else { keep := [], sites := [], frz := [], data := [], owns := [] },
  sums := fun r => bif Nat.beq r 3 then some rnum.L0.E else none,
  owns := [],
  trim := [],
  res := [],
  dats := [⟨0, [.arr], (.pair (.slice (.int .u8)) (.pair .bool .unit))⟩] }
theorem rnum.L0.inj : ∀ d d', rnum.L0.st d = rnum.L0.st d' → d = d' := fun (n, o0_2, n4) (n', o0_2', n4') hEq => by
  have e0 : n = n' := d_inj (t := (.int .i64)) (congrArg (fun s : AS => (s.slot 3)) hEq)
  have e1 : o0_2 = o0_2' := d_inj (t := (.pair (.slice (.int .u8)) (.pair .bool .unit))) (congrArg (fun s : AS => (entC (s.ent (.old 0)))) hEq)
  have e2 : n4 = n4' := d_inj (t := (.int .i64)) (congrArg (fun s : AS => (entC (s.ent (.new 4 0)))) hEq)
  rw [e0, e1, e2]
theorem rnum.L0.run {d : rnum.L0.D} (h : rnum.L0.Pre d) : rnum.L0.call d = some (rnum.L0.add d (rnum.L0.F d)) := LEntry.of_run rnum.L0.inj h
theorem rnum.L0.byRounds (μ : rnum.L0.D → Nat) (h : ∀ d, rnum.L0.Pre d → (∃ d', rnum.L0.Pre d' ∧ μ d' < μ d ∧ rnum.L0.add d' (rnum.L0.F d') = rnum.L0.add d (rnum.L0.F d) ∧ ∀ {R : Type} (kn : AS → Option R) (kx : Exit → AS → Option R), lround Tryz.prog rnum.G rnum.an 0 Tryz.f56 0 (rnum.L0.st d) kn kx = kn (rnum.L0.st d')) ∨ (∃ r, (rnum.L0.out (rnum.L0.add d (rnum.L0.F d))).eval = some r ∧ ∀ {R : Type} (kn : AS → Option R) (kx : Exit → AS → Option R), lround Tryz.prog rnum.G rnum.an 0 Tryz.f56 0 (rnum.L0.st d) kn kx = kx r.1 r.2)) : ∀ d, rnum.L0.Pre d → ∃ n, lrun Tryz.prog rnum.G rnum.an 0 Tryz.f56 0 n (rnum.L0.st d) (fun e s => some (e, s)) = (rnum.L0.out (rnum.L0.add d (rnum.L0.F d))).eval := lrun_of (F := fun d => rnum.L0.add d (rnum.L0.F d)) (out := rnum.L0.out) μ h
theorem rnum.L0.step {R : Type} (n : Int) (o0_2 : ((List Int) × (Bool × Unit))) (n4 : Int) (kn : AS → Option R) (kx : Exit → AS → Option R) : lround Tryz.prog rnum.G rnum.an 0 Tryz.f56 0 (rnum.L0.st (n, o0_2, n4)) kn kx =
  obind (rwrong.call (n4, o0_2)) fun x1 =>
  sel (x1.2) (
   obind (rfail.call x1.1.2) fun x2 =>
   kx (rnum.L0.ex0 x2).1 (rnum.L0.ex0 x2).2) (
   sel (inb x1.1.1 (((List.length x1.1.2.1) : Nat) : Int)) (
   sel (nonneg (imul .i64 (7 : Int) x1.1.1)) (
   sel ((ilt (nth (.int .u8) x1.1.2.1 (Int.toNat x1.1.1)) (128 : Int))) (
    kx (rnum.L0.ex1 ((bitop .or .i64 n (ishl .i64 (icv .i64 (irem (nth (.int .u8) x1.1.2.1 (Int.toNat x1.1.1)) (128 : Int))) (imul .i64 (7 : Int) x1.1.1))), x1.1.2, (iadd .i64 x1.1.1 (1 : Int)))).1 (rnum.L0.ex1 ((bitop .or .i64 n (ishl .i64 (icv .i64 (irem (nth (.int .u8) x1.1.2.1 (Int.toNat x1.1.1)) (128 : Int))) (imul .i64 (7 : Int) x1.1.1))), x1.1.2, (iadd .i64 x1.1.1 (1 : Int)))).2) (
    kn (rnum.L0.st ((bitop .or .i64 n (ishl .i64 (icv .i64 (irem (nth (.int .u8) x1.1.2.1 (Int.toNat x1.1.1)) (128 : Int))) (imul .i64 (7 : Int) x1.1.1))), x1.1.2, (iadd .i64 x1.1.1 (1 : Int)))))) none) none) := by kernel_rfl
theorem rnum.eq {R : Type} (o0 : ((List Int) × (Bool × Unit))) (k : GRes → Option R) : arun Tryz.prog rnum.G rnum.an 0 Tryz.f56 (rnum.st o0).1 (rnum.st o0).2 k =
  obind (rnum.L0.call ((0 : Int), o0, (0 : Int))) fun x3 =>
  sel (x3.isLeft) (
   obind (x3.getLeft?) fun a4 =>
   k (rnum.out ((0 : Int), a4))) (
   obind (x3.getRight?) fun b5 =>
   sel (inc b5.2.2 (((List.length b5.2.1.1) : Nat) : Int)) (
   k (rnum.out (b5.1, ((cut b5.2.1.1 (Int.toNat b5.2.2) ((List.length b5.2.1.1) - (Int.toNat b5.2.2))), b5.2.1.2)))) none) := by kernel_rfl


theorem rnum.L0.ok : ∀ d, rnum.L0.Pre d → ∃ n, lrun Tryz.prog rnum.G rnum.an 0 Tryz.f56 0 n (rnum.L0.st d) (fun e s => some (e, s)) = (rnum.L0.out (rnum.L0.add d (rnum.L0.F d))).eval := by
  refine rnum.L0.byRounds (fun (n, o, i) => 9 - i.toNat) ?_
  rintro ⟨n, o, i⟩ ⟨hr, k, m, hk, rfl, rfl, hm⟩
  have hk : k ≤ 9 := hk
  have hr : RdrB o := hr
  by_cases hw : o.1.length ≤ k ∨ 8 < k ∨ (0 < k ∧ nth (.int .u8) o.1 k = 0)
  · right
    have hf : numF (o.1.drop k) k (m : Int) = .inr () := by
      by_cases h : k < o.1.length
      · have n1 : nth (.int .u8) o.1 k = o.1[k] := nth_lt (t := .int .u8) h
        rw [List.drop_eq_getElem_cons h, numF, if_pos (by rw [n1] at hw; rcases hw with x | x | x; exact absurd x (by omega); exact Or.inl x; exact Or.inr x)]
      · rw [List.drop_of_length_le (by omega)]; rfl
    refine ⟨rnum.L0.ex0 failR, ?_, fun kn kx => ?_⟩
    · simp only [rnum.L0.add, rnum.L0.F, Int.toNat_natCast, hf]
      rfl
    · rw [rnum.L0.step, rwrong.run (d := ((k : Int), o)) (Int.natCast_nonneg k)]
      simp only [obind_some, rwrong.add, rwrong.F, Int.toNat_natCast]
      rw [dec_true hw, sel_true, rfail.run (d := o) trivial]
      rfl
  · have h : k < o.1.length := by omega
    have hx := hr.2 _ (List.getElem_mem h)
    obtain ⟨x1, x2⟩ := hx
    have n1 : nth (.int .u8) o.1 k = o.1[k] := nth_lt (t := .int .u8) h
    have hc : ¬ (8 < k ∨ (0 < k ∧ o.1[k] = 0)) := fun x => hw (x.elim (fun y => .inr (.inl y)) fun y => .inr (.inr ⟨y.1, n1.trans y.2⟩))
    obtain ⟨dn, hdn⟩ : ∃ d : Nat, o.1[k] = d := ⟨o.1[k].toNat, by omega⟩
    have g := digit_or (n := m) (d := dn % 128) (k := k) (by omega) hm (by omega)
    have step : ∀ {R : Type} (kn : AS → Option R) (kx : Exit → AS → Option R), lround Tryz.prog rnum.G rnum.an 0 Tryz.f56 0 (rnum.L0.st ((m : Int), o, (k : Int))) kn kx = sel (ilt o.1[k] 128) (kx (rnum.L0.ex1 (((m + dn % 128 * 128 ^ k : Nat) : Int), o, ((k + 1 : Nat) : Int))).1 (rnum.L0.ex1 (((m + dn % 128 * 128 ^ k : Nat) : Int), o, ((k + 1 : Nat) : Int))).2) (kn (rnum.L0.st (((m + dn % 128 * 128 ^ k : Nat) : Int), o, ((k + 1 : Nat) : Int)))) := by
      intro R kn kx
      rw [rnum.L0.step, rwrong.run (d := ((k : Int), o)) (Int.natCast_nonneg k)]
      simp only [obind_some, rwrong.add, rwrong.F, Int.toNat_natCast]
      rw [dec_false hw, sel_false, inb_true (by omega) (by omega), n1, hdn, N.mLN (by omega), nonneg_true (by omega), N.rNL, N.cN (by omega), g.1, N.aNL (by omega)]
      rfl
    have ef : numF (o.1.drop k) k (m : Int) = if o.1[k] < 128 then .inl (((m + dn % 128 * 128 ^ k : Nat) : Int), k + 1) else numF (o.1.drop (k + 1)) (k + 1) ((m + dn % 128 * 128 ^ k : Nat) : Int) := by
      have ec : (m : Int) + o.1[k] % 128 * 128 ^ k = ((m + dn % 128 * 128 ^ k : Nat) : Int) := by rw [hdn, pow128, Int.natCast_add, Int.natCast_mul]; rfl
      rw [List.drop_eq_getElem_cons h, numF, if_neg hc, ec]
    by_cases hl : o.1[k] < 128
    · right
      refine ⟨rnum.L0.ex1 (((m + dn % 128 * 128 ^ k : Nat) : Int), o, ((k + 1 : Nat) : Int)), ?_, fun kn kx => ?_⟩
      · simp only [rnum.L0.add, rnum.L0.F, Int.toNat_natCast, ef, if_pos hl]
        rfl
      · rw [step, ilt_true hl, sel_true]
    · left
      refine ⟨(((m + dn % 128 * 128 ^ k : Nat) : Int), o, ((k + 1 : Nat) : Int)), ⟨hr, k + 1, _, by omega, rfl, rfl, g.2.1⟩, by simp only [Int.toNat_natCast]; omega, ?_, fun kn kx => ?_⟩
      · simp only [rnum.L0.add, rnum.L0.F, Int.toNat_natCast, ef, if_neg hl]
      · rw [step, ilt_false hl, sel_false]
theorem rnum.ok : ∀ d, rnum.Pre d → arun Tryz.prog rnum.G rnum.an 0 Tryz.f56 (rnum.st d).1 (rnum.st d).2 some = some (rnum.out (rnum.add d (rnum.F d))) := by
  intro o h
  have h : RdrB o := h
  rw [rnum.eq, rnum.L0.run (d := (0, o, 0)) ⟨h, 0, 0, by decide, rfl, rfl, by decide⟩]
  simp only [obind_some, rnum.L0.add, rnum.L0.F, Int.toNat_zero, List.drop_zero, rnum.add, rnum.F, numR]
  cases hf : numF o.1 0 0 with
  | inl v =>
    have g := numF_ok o.1 0 0 v h.2 (by decide) (by decide) (by decide) hf
    have e2 : cut o.1 v.2 (o.1.length - v.2) = o.1.drop v.2 := by unfold cut; rw [List.take_of_length_le]; rw [List.length_drop]; omega
    simp only [Sum.isLeft_inr, Sum.getRight?_inr, sel_false, obind_some, Int.toNat_natCast]
    rw [inc_true (by omega) (by omega), sel_true, e2]
  | inr _ => rfl

theorem rnum.inj : ∀ d d', rnum.st d = rnum.st d' → d = d' := fun o0 o0' hEq => by
  have e0 : o0 = o0' := d_inj (t := (.pair (.slice (.int .u8)) (.pair .bool .unit))) (congrArg (fun s : List AVal × List Ent => (entD (s.2.getD 0 .dead))) hEq)
  rw [e0]
noncomputable def rnum.E : Entry := Entry.of [none] rnum.st rnum.Pre (fun d => rnum.add d (rnum.F d)) rnum.out
noncomputable def rnum.call : rnum.D → Option rnum.X := fun d => rnum.E.run (rnum.st d).1 (rnum.st d).2
theorem rnum.run {d : rnum.D} (h : rnum.Pre d) : rnum.call d = some (rnum.add d (rnum.F d)) := Entry.of_run rnum.inj h
theorem rnum.does : Does Tryz.prog 56 rnum.E := Does.of (by kernel_rfl) (show Sound _ rnum.G from Sound.cons rwrong.does (Sound.cons rfail.does (Sound.nil _))) (by kernel_rfl) (by kernel_rfl) (by kernel_rfl) (LOk.fn 1 (by kernel_rfl) (And.intro (LDo.of (by kernel_rfl) rnum.L0.ok) trivial)) rnum.ok

end Go.Ab
namespace Go.Ab
open Go.Proofs
set_option maxRecDepth 100000
set_option linter.unusedVariables false
set_option linter.unusedSimpArgs false

/-! ### corsned/corsnedref08.row -/
abbrev r8row.D := Int
def r8row.st : r8row.D → List AVal × List Ent := fun n => ([.d (.int .i64) n], [])
abbrev r8row.Y := (List Int)
abbrev r8row.X := (List Int)
def r8row.out : r8row.X → GRes := fun x => ⟨.d (.slice (.int .u8)) x, [], []⟩
def r8row.add : r8row.D → r8row.Y → r8row.X := fun n y => y


def r8row.Pre : Nat → r8row.D → Prop
  | 0 => fun _ => False
  | dep + 1 => fun n => 0 ≤ n ∧ n ≤ 9223372036854775807 ∧ n < 128 ^ (dep + 1)
def r8row.F : r8row.D → r8row.Y := fun n => rowN n
theorem rowN_small {n : Int} (h : n < 128) : rowN n = [n] := by
  unfold rowN
  rw [rowI, if_neg (by omega)]
  rfl
theorem rowN_step {n : Int} (h : 128 ≤ n) (h2 : n ≤ 9223372036854775807) : rowN n = (n % 128 + 128) :: rowN (n / 128) := by
  unfold rowN
  rw [rowI_step h h2]
  rfl
theorem u8_small {n : Int} (h0 : 0 ≤ n) (h : n < 256) : icv .u8 n = n := by rw [icv_u8, vw_ofInt]; omega

theorem r8row.inj : ∀ d d', r8row.st d = r8row.st d' → d = d' := fun n n' hEq => by
  have e0 : n = n' := d_inj (t := (.int .i64)) (congrArg (fun s : List AVal × List Ent => (s.1.getD 0 .undef)) hEq)
  rw [e0]
noncomputable def r8row.R (dep : Nat) : Entry := Entry.of [some (.int .i64)] r8row.st (r8row.Pre dep) (fun d => r8row.add d (r8row.F d)) r8row.out
noncomputable def r8row.rcall (dep : Nat) : r8row.D → Option r8row.X := fun d => (r8row.R dep).run (r8row.st d).1 (r8row.st d).2
theorem r8row.rrun {dep : Nat} {d : r8row.D} (h : r8row.Pre dep d) : r8row.rcall dep d = some (r8row.add d (r8row.F d)) := Entry.of_run r8row.inj h
noncomputable def r8row.G (dep : Nat) : Gam := gcons 121 anyArgs (r8row.R dep) (gnil)
noncomputable def r8row.an : Ann := {
  objs := [8, 13],
  loops := fun r => { keep := [], sites := [], frz := [], data := [], owns := [] },
  outs := fun r b => { keep := [], sites := [], frz := [], data := [], owns := [] },
  sums := fun r => none,
  owns := [],
  trim := [],
  res := [some (.slice (.int .u8))] }
theorem r8row.eq {R : Type} (dep : Nat) (n : Int) (k : GRes → Option R) : arun Tryz.prog (r8row.G dep) r8row.an 0 Tryz.f121 (r8row.st n).1 (r8row.st n).2 k =
  sel ((ilt n (128 : Int))) (
   k (r8row.out [(icv .u8 n)])) (
   obind (r8row.rcall dep (iquo .i64 n (128 : Int))) fun x1 =>
   sel (roomA (1 + (List.length x1)) 1) (
   sel (decide (0 = 0 ∧ (0 + (1 + (List.length x1))) ≤ (List.length ([(iadd .u8 (icv .u8 (irem n (128 : Int))) (128 : Int))] ++ x1)))) (
   k (r8row.out (cut ([(iadd .u8 (icv .u8 (irem n (128 : Int))) (128 : Int))] ++ x1) 0 (1 + (List.length x1))))) none) none) := by kernel_rfl


theorem r8row.ok : ∀ (dep : Nat) (d : r8row.D), r8row.Pre (dep + 1) d → arun Tryz.prog (r8row.G dep) r8row.an 0 Tryz.f121 (r8row.st d).1 (r8row.st d).2 some = some (r8row.out (r8row.add d (r8row.F d))) := by
  rintro dep (n : Int) ⟨h0, h1, h2⟩
  have h0 : 0 ≤ n := h0
  have h1 : n ≤ 9223372036854775807 := h1
  have h2 : n < 128 ^ (dep + 1) := h2
  rw [r8row.eq]
  simp only [r8row.add, r8row.F]
  by_cases h : n < 128
  · rw [ilt_true h, sel_true, rowN_small h, u8_small h0 (by omega)]
  · obtain ⟨m, rfl⟩ : ∃ m : Nat, n = m := ⟨n.toNat, by omega⟩
    cases dep with
    | zero => exact absurd h2 h
    | succ dep =>
      have e : (128 : Int) ^ (dep + 1 + 1) = 128 ^ (dep + 1) * 128 := Int.pow_succ 128 (dep + 1)
      have e1 : iquo .i64 (m : Int) (128 : Int) = ((m / 128 : Nat) : Int) := N.qNL (by omega)
      have e2 : irem (m : Int) (128 : Int) = ((m % 128 : Nat) : Int) := N.rNL
      have e3 : iadd .u8 (icv .u8 ((m % 128 : Nat) : Int)) (128 : Int) = (m : Int) % 128 + 128 := by
        rw [u8_small (by omega) (by omega)]
        show IntKind.u8.wrap _ = _
        rw [wrap_u8, vw_ofInt]
        omega
      have e4 : ((m / 128 : Nat) : Int) = (m : Int) / 128 := by omega
      have hl := rowN_len ((m : Int) / 128)
      rw [ilt_false h, sel_false, e1, e2, e3, e4, r8row.rrun (dep := dep + 1) (d := (m : Int) / 128) ⟨by show 0 ≤ (m : Int) / 128; omega, by show (m : Int) / 128 ≤ _; omega, by show (m : Int) / 128 < _; omega⟩]
      simp only [obind_some, r8row.add, r8row.F]
      rw [room_true (by omega) (by omega), rowN_step (by omega) h1]
      have el : ([(m : Int) % 128 + 128] ++ rowN ((m : Int) / 128)).length = 1 + (rowN ((m : Int) / 128)).length := by rw [List.length_append]; rfl
      rw [dec_true ⟨by trivial, by rw [el]; omega⟩, cut_len el]
      rfl

noncomputable def r8row.E : Entry := r8row.R 9
noncomputable def r8row.call : r8row.D → Option r8row.X := fun d => r8row.E.run (r8row.st d).1 (r8row.st d).2
theorem r8row.run {d : r8row.D} (h : r8row.Pre 9 d) : r8row.call d = some (r8row.add d (r8row.F d)) := Entry.of_run r8row.inj h
theorem r8row.rdoes : ∀ dep, Does Tryz.prog 121 (r8row.R dep)
  | 0 => Does.of (an := r8row.an) (N := 0) (fn := Tryz.f121) (by kernel_rfl) (show Sound _ gnil from Sound.nil _) (by kernel_rfl) (by kernel_rfl) (by kernel_rfl) (LOk.fn 0 (by kernel_rfl) trivial) (fun _ h => False.elim h)
  | dep + 1 => Does.of (by kernel_rfl) (show Sound _ (r8row.G dep) from Sound.cons (r8row.rdoes dep) (Sound.nil _)) (by kernel_rfl) (by kernel_rfl) (by kernel_rfl) (LOk.fn 0 (by kernel_rfl) trivial) (r8row.ok dep)
theorem r8row.does : Does Tryz.prog 121 r8row.E := r8row.rdoes 9

/-! ### corsned/corsnedref08.Put -/
abbrev r8put.D := (List Int) × Int
def r8put.st : r8put.D → List AVal × List Ent := fun (b, n) => ([.d (.slice (.int .u8)) b, .d (.int .i64) n], [])
abbrev r8put.Y := (List Int)
abbrev r8put.X := (List Int)
def r8put.out : r8put.X → GRes := fun x => ⟨.d (.slice (.int .u8)) x, [], []⟩
def r8put.add : r8put.D → r8put.Y → r8put.X := fun (b, n) y => y


def r8put.Pre : r8put.D → Prop := fun (b, n) => b.length ≤ 90000000 ∧ n ≤ 9223372036854775807
def r8put.F : r8put.D → r8put.Y := fun (b, n) => putN b n

noncomputable def r8put.G : Gam := gcons 121 anyArgs r8row.E (gnil)
noncomputable def r8put.an : Ann := {
  objs := [6],
  loops := fun r => { keep := [], sites := [], frz := [], data := [], owns := [] },
  outs := fun r b => { keep := [], sites := [], frz := [], data := [], owns := [] },
  sums := fun r => none,
  owns := [],
  trim := [],
  res := [some (.slice (.int .u8))] }
theorem r8put.eq {R : Type} (b : (List Int)) (n : Int) (k : GRes → Option R) : arun Tryz.prog r8put.G r8put.an 0 Tryz.f71 (r8put.st (b, n)).1 (r8put.st (b, n)).2 k =
  sel (roomA (0 + (List.length b)) 1) (
  sel ((ige n (0 : Int))) (
   obind (r8row.call n) fun x1 =>
   sel (decide ((0 + (List.length b)) ≤ (List.length ((List.take 0 (List.replicate 0 (0 : Int))) ++ b)))) (
   sel (roomA ((0 + (List.length b)) + (List.length x1)) 1) (
   sel (decide (0 = 0 ∧ (0 + ((0 + (List.length b)) + (List.length x1))) ≤ (List.length ((List.take (0 + (List.length b)) ((List.take 0 (List.replicate 0 (0 : Int))) ++ b)) ++ x1)))) (
   k (r8put.out (cut ((List.take (0 + (List.length b)) ((List.take 0 (List.replicate 0 (0 : Int))) ++ b)) ++ x1) 0 ((0 + (List.length b)) + (List.length x1))))) none) none) none) (
   sel (decide (0 = 0 ∧ (0 + (0 + (List.length b))) ≤ (List.length ((List.take 0 (List.replicate 0 (0 : Int))) ++ b)))) (
   k (r8put.out (cut ((List.take 0 (List.replicate 0 (0 : Int))) ++ b) 0 (0 + (List.length b))))) none)) none := by kernel_rfl


theorem r8put.ok : ∀ d, r8put.Pre d → arun Tryz.prog r8put.G r8put.an 0 Tryz.f71 (r8put.st d).1 (r8put.st d).2 some = some (r8put.out (r8put.add d (r8put.F d))) := by
  rintro ⟨b, n⟩ ⟨hb, hn⟩
  have hb : b.length ≤ 90000000 := hb
  have hn : n ≤ 9223372036854775807 := hn
  have e0 : (List.take 0 (List.replicate 0 0) : List Int) = [] := rfl
  rw [r8put.eq]
  simp only [Nat.zero_add, e0, List.nil_append, r8put.add, r8put.F, putN, Nat.le_refl, and_self, decide_true, sel_true, cut_len, List.take_length]
  rw [room_true (by omega) (by omega), sel_true]
  by_cases h : n ≥ 0
  · have hl := rowN_len n
    rw [ige_true h, sel_true, if_neg (by omega), r8row.run (d := n) ⟨h, hn, by have e : (128 : Int) ^ (8 + 1) = 9223372036854775808 := rfl; rw [e]; show n < _; omega⟩]
    simp only [obind_some, r8row.add, r8row.F]
    rw [room_true (by omega) (by omega), dec_true ⟨by trivial, by rw [List.length_append]; omega⟩, cut_len (by rw [List.length_append])]
    rfl
  · rw [ige_false h, if_pos (by omega)]; rfl

theorem r8put.inj : ∀ d d', r8put.st d = r8put.st d' → d = d' := fun (b, n) (b', n') hEq => by
  have e0 : b = b' := d_inj (t := (.slice (.int .u8))) (congrArg (fun s : List AVal × List Ent => (s.1.getD 0 .undef)) hEq)
  have e1 : n = n' := d_inj (t := (.int .i64)) (congrArg (fun s : List AVal × List Ent => (s.1.getD 1 .undef)) hEq)
  rw [e0, e1]
noncomputable def r8put.E : Entry := Entry.of [some (.slice (.int .u8)), some (.int .i64)] r8put.st r8put.Pre (fun d => r8put.add d (r8put.F d)) r8put.out
noncomputable def r8put.call : r8put.D → Option r8put.X := fun d => r8put.E.run (r8put.st d).1 (r8put.st d).2
theorem r8put.run {d : r8put.D} (h : r8put.Pre d) : r8put.call d = some (r8put.add d (r8put.F d)) := Entry.of_run r8put.inj h
theorem r8put.does : Does Tryz.prog 71 r8put.E := Does.of (by kernel_rfl) (show Sound _ r8put.G from Sound.cons r8row.does (Sound.nil _)) (by kernel_rfl) (by kernel_rfl) (by kernel_rfl) (LOk.fn 0 (by kernel_rfl) trivial) r8put.ok

/-! ### corsned/corsnedref08.PutU64 -/
abbrev r8putu.L0.D := Int × Nat × Int × (List Int)
def r8putu.L0.st : r8putu.L0.D → AS := fun (n_2, outL, i, n7) => ⟨([.undef, .d (.int .u64) n_2, .undef, .undef, .undef, .sref (.new 7 0) 0 [] 0 0 outL, .d (.int .i64) i] ++ undN 17 []), [], (nilN 7 ([[.obj 0 false (.vec 5 (.int .u8) n7)]] ++ nilN 16 []))⟩
abbrev r8putu.L0.Y0 := Nat × (List Int)  -- outL, n7
abbrev r8putu.L0.X0 := Nat × (List Int)
def r8putu.L0.ex0 : r8putu.L0.X0 → Exit × AS := fun x => (.exit 0, ⟨(undN 5 ([.sref (.new 7 0) 0 [] 0 0 x.1] ++ undN 18 [])), [], (nilN 7 ([[.obj 0 false (.vec 5 (.int .u8) x.2)]] ++ nilN 16 []))⟩)
abbrev r8putu.L0.X := r8putu.L0.X0
abbrev r8putu.L0.Y := r8putu.L0.Y0
def r8putu.L0.out : r8putu.L0.X → Out (Exit × AS) := fun x => .ok (r8putu.L0.ex0 x)
def r8putu.L0.add : r8putu.L0.D → r8putu.L0.Y → r8putu.L0.X := fun (n_2, outL, i, n7) y => y
abbrev r8putu.D := (List Int) × Int
def r8putu.st : r8putu.D → List AVal × List Ent := fun (b, n) => ([.d (.slice (.int .u8)) b, .d (.int .u64) n], [])
abbrev r8putu.Y := (List Int)
abbrev r8putu.X := (List Int)
def r8putu.out : r8putu.X → GRes := fun x => ⟨.d (.slice (.int .u8)) x, [], []⟩
def r8putu.add : r8putu.D → r8putu.Y → r8putu.X := fun (b, n) y => y


def r8putu.L0.Pre : r8putu.L0.D → Prop := fun (n, m, i, l) => m = l.length ∧ ∃ j : Nat, j ≤ 8 ∧ i = 7 - (j : Int) ∧ l.length ≤ 100000000 + j
def r8putu.L0.F : r8putu.L0.D → r8putu.L0.Y := fun (n, m, i, l) => (m + (i + 1).toNat, l ++ (be8 n).drop (7 - i).toNat)
def r8putu.Pre : r8putu.D → Prop := fun (b, n) => b.length ≤ 90000000
def r8putu.F : r8putu.D → r8putu.Y := fun (b, n) => b ++ be8 n

noncomputable def r8putu.G : Gam := gnil
noncomputable def r8putu.L0.E : LEntry := LEntry.of r8putu.L0.st r8putu.L0.Pre (fun d => r8putu.L0.add d (r8putu.L0.F d)) r8putu.L0.out
noncomputable def r8putu.L0.call : r8putu.L0.D → Option r8putu.L0.X := fun d => r8putu.L0.E.run (r8putu.L0.st d)
noncomputable def r8putu.an : Ann := {
  objs := [7],
  loops := fun r => bif Nat.beq r 3 then { keep := [1, 5, 6], sites := [7], frz := [], data := [], owns := [⟨5, [], 7, 25⟩] } else { keep := [], sites := [], frz := [], data := [], owns := [] },
  outs := fun r b => bif Nat.beq r 3 then (bif b then { keep := [4], sites := [], frz := [], data := [], owns := [] } else { keep := [5], sites := [7], frz := [], data := [], owns := [] }) else { keep := [], sites := [], frz := [], data := [], owns := [] },
  sums := fun r => bif Nat.beq r 3 then some r8putu.L0.E else none,
  owns := [],
  trim := [],
  res := [some (.slice (.int .u8))] }
theorem r8putu.L0.inj : ∀ d d', r8putu.L0.st d = r8putu.L0.st d' → d = d' := fun (n_2, outL, i, n7) (n_2', outL', i', n7') hEq => by
  have e0 : n_2 = n_2' := d_inj (t := (.int .u64)) (congrArg (fun s : AS => (s.slot 1)) hEq)
  have e1 : outL = outL' := congrArg (fun s : AS => srefLen (s.slot 5)) hEq
  have e2 : i = i' := d_inj (t := (.int .i64)) (congrArg (fun s : AS => (s.slot 6)) hEq)
  have e3 : n7 = n7' := vec_inj (e := 5) (t := (.int .u8)) (congrArg (fun s : AS => (entC (s.ent (.new 7 0)))) hEq)
  rw [e0, e1, e2, e3]
theorem r8putu.L0.run {d : r8putu.L0.D} (h : r8putu.L0.Pre d) : r8putu.L0.call d = some (r8putu.L0.add d (r8putu.L0.F d)) := LEntry.of_run r8putu.L0.inj h
theorem r8putu.L0.byRounds (μ : r8putu.L0.D → Nat) (h : ∀ d, r8putu.L0.Pre d → (∃ d', r8putu.L0.Pre d' ∧ μ d' < μ d ∧ r8putu.L0.add d' (r8putu.L0.F d') = r8putu.L0.add d (r8putu.L0.F d) ∧ ∀ {R : Type} (kn : AS → Option R) (kx : Exit → AS → Option R), lround Tryz.prog r8putu.G r8putu.an 0 Tryz.f72 0 (r8putu.L0.st d) kn kx = kn (r8putu.L0.st d')) ∨ (∀ {R : Type} (kn : AS → Option R) (kx : Exit → AS → Option R), lround Tryz.prog r8putu.G r8putu.an 0 Tryz.f72 0 (r8putu.L0.st d) kn kx = kx (r8putu.L0.ex0 (r8putu.L0.add d (r8putu.L0.F d))).1 (r8putu.L0.ex0 (r8putu.L0.add d (r8putu.L0.F d))).2)) : ∀ d, r8putu.L0.Pre d → ∃ n, lrun Tryz.prog r8putu.G r8putu.an 0 Tryz.f72 0 n (r8putu.L0.st d) (fun e s => some (e, s)) = (r8putu.L0.out (r8putu.L0.add d (r8putu.L0.F d))).eval := lrun_one (F := fun d => r8putu.L0.add d (r8putu.L0.F d)) μ h
theorem r8putu.L0.step {R : Type} (n_2 : Int) (outL : Nat) (i : Int) (n7 : (List Int)) (kn : AS → Option R) (kx : Exit → AS → Option R) : lround Tryz.prog r8putu.G r8putu.an 0 Tryz.f72 0 (r8putu.L0.st (n_2, outL, i, n7)) kn kx =
  sel ((ige i (0 : Int))) (
   sel (nonneg (icv .u64 (imul .i64 (8 : Int) i))) (
   sel (decide (outL ≤ (List.length n7))) (
   sel (roomA (outL + 1) 1) (
   kn (r8putu.L0.st (n_2, (outL + 1), (isub .i64 i (1 : Int)), ((List.take outL n7) ++ [(icv .u8 (ishr .u64 n_2 (icv .u64 (imul .i64 (8 : Int) i))))])))) none) none) none) (
   kx (r8putu.L0.ex0 (outL, n7)).1 (r8putu.L0.ex0 (outL, n7)).2) := by kernel_rfl
theorem r8putu.eq {R : Type} (b : (List Int)) (n : Int) (k : GRes → Option R) : arun Tryz.prog r8putu.G r8putu.an 0 Tryz.f72 (r8putu.st (b, n)).1 (r8putu.st (b, n)).2 k =
  sel (roomA (0 + (List.length b)) 1) (
  obind (r8putu.L0.call (n, (0 + (List.length b)), (7 : Int), ((List.take 0 (List.replicate 0 (0 : Int))) ++ b))) fun x1 =>
  sel (decide (0 = 0 ∧ (0 + x1.1) ≤ (List.length x1.2))) (
  k (r8putu.out (cut x1.2 0 x1.1))) none) none := by kernel_rfl


theorem r8putu.L0.ok : ∀ d, r8putu.L0.Pre d → ∃ n, lrun Tryz.prog r8putu.G r8putu.an 0 Tryz.f72 0 n (r8putu.L0.st d) (fun e s => some (e, s)) = (r8putu.L0.out (r8putu.L0.add d (r8putu.L0.F d))).eval := by
  refine r8putu.L0.byRounds (fun (n, m, i, l) => (i + 1).toNat) ?_
  rintro ⟨n, m, i, l⟩ ⟨rfl, j, hj, rfl, hl⟩
  have hl : l.length ≤ 100000000 + j := hl
  have e1 : (7 - (7 - (j : Int))).toNat = j := by omega
  by_cases h : j < 8
  · left
    have e2 : isub .i64 (7 - (j : Int)) 1 = 7 - ((j + 1 : Nat) : Int) := by rw [isub_i64 (by omega) (by omega)]; omega
    have e3 : (7 - (7 - ((j + 1 : Nat) : Int))).toNat = j + 1 := by omega
    have e4 : imul .i64 8 (7 - (j : Int)) = ((56 - 8 * j : Nat) : Int) := by rw [imul_i64 (by omega) (by omega)]; omega
    have e5 : icv .u64 ((56 - 8 * j : Nat) : Int) = ((56 - 8 * j : Nat) : Int) := by rw [icv_u64, vw_ofInt]; omega
    refine ⟨(n, l.length + 1, 7 - ((j + 1 : Nat) : Int), l ++ [n / 2 ^ (56 - 8 * j) % 256]), ⟨by rw [List.length_append]; rfl, j + 1, by omega, rfl, by rw [List.length_append]; show l.length + 1 ≤ _; omega⟩, by simp only; omega, ?_, fun kn kx => ?_⟩
    · simp only [r8putu.L0.add, r8putu.L0.F, e1, e3, be8_drop n j h, List.append_assoc, List.singleton_append]
      rw [show l.length + 1 + (7 - ((j + 1 : Nat) : Int) + 1).toNat = l.length + (7 - (j : Int) + 1).toNat by omega]
    · rw [r8putu.L0.step, ige_true (by omega), e4, e5, nonneg_true (by omega), u64_byte n _ (by omega), e2, dec_true (Nat.le_refl _), room_true (by omega) (by omega), List.take_length]
      rfl
  · right
    obtain rfl : j = 8 := by omega
    intro R kn kx
    rw [r8putu.L0.step, ige_false (by omega), sel_false]
    simp only [r8putu.L0.add, r8putu.L0.F, e1]
    rw [List.drop_of_length_le (by rw [be8_length]; omega), List.append_nil]
    rfl
theorem r8putu.ok : ∀ d, r8putu.Pre d → arun Tryz.prog r8putu.G r8putu.an 0 Tryz.f72 (r8putu.st d).1 (r8putu.st d).2 some = some (r8putu.out (r8putu.add d (r8putu.F d))) := by
  rintro ⟨b, n⟩ hb
  have hb : b.length ≤ 90000000 := hb
  have e0 : (List.take 0 (List.replicate 0 0) : List Int) = [] := rfl
  rw [r8putu.eq]
  simp only [Nat.zero_add, e0, List.nil_append]
  rw [room_true (by omega) (by omega), sel_true, r8putu.L0.run (d := (n, b.length, 7, b)) ⟨rfl, 0, by omega, rfl, by omega⟩]
  simp only [obind_some, r8putu.L0.add, r8putu.L0.F]
  rw [show (7 - (7 : Int)).toNat = 0 from rfl, show ((7 : Int) + 1).toNat = 8 from rfl, List.drop_zero]
  have el : (b ++ be8 n).length = b.length + 8 := by rw [List.length_append, be8_length]
  rw [dec_true ⟨by trivial, by rw [el]; omega⟩, cut_len el]
  rfl

theorem r8putu.inj : ∀ d d', r8putu.st d = r8putu.st d' → d = d' := fun (b, n) (b', n') hEq => by
  have e0 : b = b' := d_inj (t := (.slice (.int .u8))) (congrArg (fun s : List AVal × List Ent => (s.1.getD 0 .undef)) hEq)
  have e1 : n = n' := d_inj (t := (.int .u64)) (congrArg (fun s : List AVal × List Ent => (s.1.getD 1 .undef)) hEq)
  rw [e0, e1]
noncomputable def r8putu.E : Entry := Entry.of [some (.slice (.int .u8)), some (.int .u64)] r8putu.st r8putu.Pre (fun d => r8putu.add d (r8putu.F d)) r8putu.out
noncomputable def r8putu.call : r8putu.D → Option r8putu.X := fun d => r8putu.E.run (r8putu.st d).1 (r8putu.st d).2
theorem r8putu.run {d : r8putu.D} (h : r8putu.Pre d) : r8putu.call d = some (r8putu.add d (r8putu.F d)) := Entry.of_run r8putu.inj h
theorem r8putu.does : Does Tryz.prog 72 r8putu.E := Does.of (by kernel_rfl) (show Sound _ r8putu.G from Sound.nil _) (by kernel_rfl) (by kernel_rfl) (by kernel_rfl) (LOk.fn 1 (by kernel_rfl) (And.intro (LDo.of (by kernel_rfl) r8putu.L0.ok) trivial)) r8putu.ok

end Go.Ab
namespace Go.Ab
open Go.Proofs
set_option maxRecDepth 100000
set_option linter.unusedVariables false
set_option linter.unusedSimpArgs false

/-! ### (*corsned/corsnedref08.Reader).fail -/
abbrev r8fail.D := ((List Int) × (Bool × Unit))
def r8fail.st : r8fail.D → List AVal × List Ent := fun o0 => ([.ptr (.old 0) 0 [] 0], [.obj 0 false (.d (.pair (.slice (.int .u8)) (.pair .bool .unit)) o0)])
abbrev r8fail.Y := ((List Int) × (Bool × Unit))
abbrev r8fail.X := ((List Int) × (Bool × Unit))
def r8fail.out : r8fail.X → GRes := fun x => ⟨.nil, [.obj 0 false (.d (.pair (.slice (.int .u8)) (.pair .bool .unit)) x)], []⟩
def r8fail.add : r8fail.D → r8fail.Y → r8fail.X := fun o0 y => y


def r8fail.Pre : r8fail.D → Prop := fun _ => True
def r8fail.F : r8fail.D → r8fail.Y := fun _ => failR

noncomputable def r8fail.G : Gam := gnil
noncomputable def r8fail.an : Ann := {
  objs := [],
  loops := fun r => { keep := [], sites := [], frz := [], data := [], owns := [] },
  outs := fun r b => { keep := [], sites := [], frz := [], data := [], owns := [] },
  sums := fun r => none,
  owns := [],
  trim := [],
  res := [],
  dats := [⟨0, [.arr], (.pair (.slice (.int .u8)) (.pair .bool .unit))⟩] }
theorem r8fail.eq {R : Type} (o0 : ((List Int) × (Bool × Unit))) (k : GRes → Option R) : arun Tryz.prog r8fail.G r8fail.an 0 Tryz.f125 (r8fail.st o0).1 (r8fail.st o0).2 k =
  k (r8fail.out (([] : List Int), (true, o0.2.2))) := by kernel_rfl


theorem r8fail.ok : ∀ d, r8fail.Pre d → arun Tryz.prog r8fail.G r8fail.an 0 Tryz.f125 (r8fail.st d).1 (r8fail.st d).2 some = some (r8fail.out (r8fail.add d (r8fail.F d))) := by
  intro o _
  rw [r8fail.eq]
  rfl

theorem r8fail.inj : ∀ d d', r8fail.st d = r8fail.st d' → d = d' := fun o0 o0' hEq => by
  have e0 : o0 = o0' := d_inj (t := (.pair (.slice (.int .u8)) (.pair .bool .unit))) (congrArg (fun s : List AVal × List Ent => (entD (s.2.getD 0 .dead))) hEq)
  rw [e0]
noncomputable def r8fail.E : Entry := Entry.of [none] r8fail.st r8fail.Pre (fun d => r8fail.add d (r8fail.F d)) r8fail.out
noncomputable def r8fail.call : r8fail.D → Option r8fail.X := fun d => r8fail.E.run (r8fail.st d).1 (r8fail.st d).2
theorem r8fail.run {d : r8fail.D} (h : r8fail.Pre d) : r8fail.call d = some (r8fail.add d (r8fail.F d)) := Entry.of_run r8fail.inj h
theorem r8fail.does : Does Tryz.prog 125 r8fail.E := Does.of (by kernel_rfl) (show Sound _ r8fail.G from Sound.nil _) (by kernel_rfl) (by kernel_rfl) (by kernel_rfl) (LOk.fn 0 (by kernel_rfl) trivial) r8fail.ok

/-! ### (*corsned/corsnedref08.Reader).next -/
abbrev r8next.D := Int × ((List Int) × (Bool × Unit))
def r8next.st : r8next.D → List AVal × List Ent := fun (n, o0) => ([.ptr (.old 0) 0 [] 0, .d (.int .i64) n], [.obj 0 false (.d (.pair (.slice (.int .u8)) (.pair .bool .unit)) o0)])
abbrev r8next.Y := (List Int) × ((List Int) × (Bool × Unit))
abbrev r8next.X := (List Int) × ((List Int) × (Bool × Unit))
def r8next.out : r8next.X → GRes := fun x => ⟨.d (.slice (.int .u8)) x.1, [.obj 0 false (.d (.pair (.slice (.int .u8)) (.pair .bool .unit)) x.2)], []⟩
def r8next.add : r8next.D → r8next.Y → r8next.X := fun (n, o0) y => y


def r8next.Pre : r8next.D → Prop := fun (n, o) => 0 ≤ n ∧ o.1.length ≤ 1000000000
def r8next.F : r8next.D → r8next.Y := fun (n, o) => takeR n.toNat o

noncomputable def r8next.G : Gam := gcons 125 anyArgs r8fail.E (gnil)
noncomputable def r8next.an : Ann := {
  objs := [21],
  loops := fun r => { keep := [], sites := [], frz := [], data := [], owns := [] },
  outs := fun r b => { keep := [], sites := [], frz := [], data := [], owns := [] },
  sums := fun r => none,
  owns := [],
  trim := [],
  res := [some (.slice (.int .u8))],
  dats := [⟨0, [.arr], (.pair (.slice (.int .u8)) (.pair .bool .unit))⟩] }
theorem r8next.eq {R : Type} (n : Int) (o0 : ((List Int) × (Bool × Unit))) (k : GRes → Option R) : arun Tryz.prog r8next.G r8next.an 0 Tryz.f126 (r8next.st (n, o0)).1 (r8next.st (n, o0)).2 k =
  sel (o0.2.1) (
   obind (r8fail.call o0) fun x1 =>
   k (r8next.out (([] : List Int), x1))) (
   sel ((igt n (((List.length o0.1) : Nat) : Int))) (
    obind (r8fail.call o0) fun x2 =>
    k (r8next.out (([] : List Int), x2))) (
    sel (inc n (((List.length o0.1) : Nat) : Int)) (
    sel (roomA (0 + (List.length (cut o0.1 0 ((Int.toNat n) - 0)))) 1) (
    sel (inc n (((List.length o0.1) : Nat) : Int)) (
    sel (decide (0 = 0 ∧ (0 + (0 + (List.length (cut o0.1 0 ((Int.toNat n) - 0))))) ≤ (List.length ((List.take 0 (List.replicate 0 (0 : Int))) ++ (cut o0.1 0 ((Int.toNat n) - 0)))))) (
    k (r8next.out ((cut ((List.take 0 (List.replicate 0 (0 : Int))) ++ (cut o0.1 0 ((Int.toNat n) - 0))) 0 (0 + (List.length (cut o0.1 0 ((Int.toNat n) - 0))))), ((cut o0.1 (Int.toNat n) ((List.length o0.1) - (Int.toNat n))), o0.2)))) none) none) none) none)) := by kernel_rfl


theorem r8next.ok : ∀ d, r8next.Pre d → arun Tryz.prog r8next.G r8next.an 0 Tryz.f126 (r8next.st d).1 (r8next.st d).2 some = some (r8next.out (r8next.add d (r8next.F d))) := by
  rintro ⟨n, o⟩ ⟨h0, hl⟩
  have h0 : 0 ≤ n := h0
  have hl : o.1.length ≤ 1000000000 := hl
  obtain ⟨k, rfl⟩ : ∃ k : Nat, n = k := ⟨n.toNat, by omega⟩
  have e0 : (List.take 0 (List.replicate 0 0) : List Int) = [] := rfl
  rw [r8next.eq]
  simp only [r8next.add, r8next.F, takeR, Int.toNat_natCast, Nat.sub_zero, Nat.zero_add, e0, List.nil_append, Nat.le_refl, and_self, decide_true, sel_true, cut_len]
  cases h2 : o.2.1
  · by_cases hn : o.1.length < k
    · rw [igt_true (by omega), if_pos (Or.inr hn), r8fail.run (d := o) trivial]; rfl
    · have e1 : cut o.1 0 k = o.1.take k := rfl
      have e2 : cut o.1 k (o.1.length - k) = o.1.drop k := by unfold cut; rw [List.take_of_length_le]; rw [List.length_drop]; omega
      rw [igt_false (by omega), if_neg (by intro x; rcases x with x | x; exact absurd x (by decide); exact hn x), inc_true (by omega) (by omega), e1, e2, room_true (by rw [List.length_take]; omega) (by rw [List.length_take]; omega)]
      rfl
  · rw [sel_true, if_pos (Or.inl rfl), r8fail.run (d := o) trivial]; rfl

theorem r8next.inj : ∀ d d', r8next.st d = r8next.st d' → d = d' := fun (n, o0) (n', o0') hEq => by
  have e0 : n = n' := d_inj (t := (.int .i64)) (congrArg (fun s : List AVal × List Ent => (s.1.getD 1 .undef)) hEq)
  have e1 : o0 = o0' := d_inj (t := (.pair (.slice (.int .u8)) (.pair .bool .unit))) (congrArg (fun s : List AVal × List Ent => (entD (s.2.getD 0 .dead))) hEq)
  rw [e0, e1]
noncomputable def r8next.E : Entry := Entry.of [none, some (.int .i64)] r8next.st r8next.Pre (fun d => r8next.add d (r8next.F d)) r8next.out
noncomputable def r8next.call : r8next.D → Option r8next.X := fun d => r8next.E.run (r8next.st d).1 (r8next.st d).2
theorem r8next.run {d : r8next.D} (h : r8next.Pre d) : r8next.call d = some (r8next.add d (r8next.F d)) := Entry.of_run r8next.inj h
theorem r8next.does : Does Tryz.prog 126 r8next.E := Does.of (by kernel_rfl) (show Sound _ r8next.G from Sound.cons r8fail.does (Sound.nil _)) (by kernel_rfl) (by kernel_rfl) (by kernel_rfl) (LOk.fn 0 (by kernel_rfl) trivial) r8next.ok

/-! ### (*corsned/corsnedref08.Reader).U64 -/
abbrev r8u64.L0.D := (List Int) × Int × Int × ((List Int) × (Bool × Unit))
def r8u64.L0.st : r8u64.L0.D → AS := fun (b, n, i, o0_2) => ⟨([.undef, .undef, .undef, .d (.slice (.int .u8)) b, .d (.int .u64) n, .d (.int .i64) i] ++ undN 17 []), [.obj 0 false (.d (.pair (.slice (.int .u8)) (.pair .bool .unit)) o0_2)], (List.replicate 23 [])⟩
abbrev r8u64.L0.Y0 := Int  -- n
abbrev r8u64.L0.X0 := (((List Int) × (Bool × Unit))) × (Int)
def r8u64.L0.ex0 : r8u64.L0.X0 → Exit × AS := fun x => (.exit 0, ⟨(undN 4 ([.d (.int .u64) x.2] ++ undN 18 [])), [.obj 0 false (.d (.pair (.slice (.int .u8)) (.pair .bool .unit)) x.1)], (List.replicate 23 [])⟩)
abbrev r8u64.L0.X := r8u64.L0.X0
abbrev r8u64.L0.Y := r8u64.L0.Y0
def r8u64.L0.out : r8u64.L0.X → Out (Exit × AS) := fun x => .ok (r8u64.L0.ex0 x)
def r8u64.L0.add : r8u64.L0.D → r8u64.L0.Y → r8u64.L0.X := fun (b, n, i, o0_2) y => (o0_2, y)
abbrev r8u64.D := ((List Int) × (Bool × Unit))
def r8u64.st : r8u64.D → List AVal × List Ent := fun o0 => ([.ptr (.old 0) 0 [] 0], [.obj 0 false (.d (.pair (.slice (.int .u8)) (.pair .bool .unit)) o0)])
abbrev r8u64.Y := Int × ((List Int) × (Bool × Unit))
abbrev r8u64.X := Int × ((List Int) × (Bool × Unit))
def r8u64.out : r8u64.X → GRes := fun x => ⟨.d (.int .u64) x.1, [.obj 0 false (.d (.pair (.slice (.int .u8)) (.pair .bool .unit)) x.2)], []⟩
def r8u64.add : r8u64.D → r8u64.Y → r8u64.X := fun o0 y => y


def r8u64.L0.Pre : r8u64.L0.D → Prop := fun (l, n, i, o) => Bytes l ∧ l.length ≤ 8 ∧ ∃ k : Nat, k ≤ l.length ∧ i = k ∧ n = num8 (l.take k)
def r8u64.L0.F : r8u64.L0.D → r8u64.L0.Y := fun (l, n, i, o) => num8 l
def r8u64.Pre : r8u64.D → Prop := fun o => RdrB o
def r8u64.F : r8u64.D → r8u64.Y := fun o => u64R o
theorem times256 {n b : Int} (h0 : 0 ≤ n) (h1 : n < 72057594037927936) (hb : Byte b) : iadd .u64 (imul .u64 256 n) (icv .u64 b) = n * 256 + b := by
  obtain ⟨b0, b1⟩ := hb
  have e1 : imul .u64 256 n = 256 * n := by unfold imul; rw [wrap_u64, vw_ofInt]; omega
  have e2 : icv .u64 b = b := by rw [icv_u64, vw_ofInt]; omega
  rw [e1, e2]
  show IntKind.u64.wrap _ = _
  rw [wrap_u64, vw_ofInt]
  omega

noncomputable def r8u64.G : Gam := gcons 126 anyArgs r8next.E (gnil)
noncomputable def r8u64.L0.E : LEntry := LEntry.of r8u64.L0.st r8u64.L0.Pre (fun d => r8u64.L0.add d (r8u64.L0.F d)) r8u64.L0.out
noncomputable def r8u64.L0.call : r8u64.L0.D → Option r8u64.L0.X := fun d => r8u64.L0.E.run (r8u64.L0.st d)
noncomputable def r8u64.an : Ann := {
  objs := [],
  loops := fun r => bif Nat.beq r 4 then { keep := [3, 4, 5], sites := [], frz := [], data := [], owns := [] } else { keep := [], sites := [], frz := [], data := [], owns := [] },
  outs := fun r b => bif Nat.beq r 4 then (bif b then { keep := [2], sites := [], frz := [], data := [], owns := [] } else { keep := [4], sites := [], frz := [], data := [], owns := [] }) else { keep := [], sites := [], frz := [], data := [], owns := [] },
  sums := fun r => bif Nat.beq r 4 then some r8u64.L0.E else none,
  owns := [],
  trim := [],
  res := [] }
theorem r8u64.L0.inj : ∀ d d', r8u64.L0.st d = r8u64.L0.st d' → d = d' := fun (b, n, i, o0_2) (b', n', i', o0_2') hEq => by
  have e0 : b = b' := d_inj (t := (.slice (.int .u8))) (congrArg (fun s : AS => (s.slot 3)) hEq)
  have e1 : n = n' := d_inj (t := (.int .u64)) (congrArg (fun s : AS => (s.slot 4)) hEq)
  have e2 : i = i' := d_inj (t := (.int .i64)) (congrArg (fun s : AS => (s.slot 5)) hEq)
  have e3 : o0_2 = o0_2' := d_inj (t := (.pair (.slice (.int .u8)) (.pair .bool .unit))) (congrArg (fun s : AS => (entC (s.ent (.old 0)))) hEq)
  rw [e0, e1, e2, e3]
theorem r8u64.L0.run {d : r8u64.L0.D} (h : r8u64.L0.Pre d) : r8u64.L0.call d = some (r8u64.L0.add d (r8u64.L0.F d)) := LEntry.of_run r8u64.L0.inj h
theorem r8u64.L0.byRounds (μ : r8u64.L0.D → Nat) (h : ∀ d, r8u64.L0.Pre d → (∃ d', r8u64.L0.Pre d' ∧ μ d' < μ d ∧ r8u64.L0.add d' (r8u64.L0.F d') = r8u64.L0.add d (r8u64.L0.F d) ∧ ∀ {R : Type} (kn : AS → Option R) (kx : Exit → AS → Option R), lround Tryz.prog r8u64.G r8u64.an 0 Tryz.f115 0 (r8u64.L0.st d) kn kx = kn (r8u64.L0.st d')) ∨ (∀ {R : Type} (kn : AS → Option R) (kx : Exit → AS → Option R), lround Tryz.prog r8u64.G r8u64.an 0 Tryz.f115 0 (r8u64.L0.st d) kn kx = kx (r8u64.L0.ex0 (r8u64.L0.add d (r8u64.L0.F d))).1 (r8u64.L0.ex0 (r8u64.L0.add d (r8u64.L0.F d))).2)) : ∀ d, r8u64.L0.Pre d → ∃ n, lrun Tryz.prog r8u64.G r8u64.an 0 Tryz.f115 0 n (r8u64.L0.st d) (fun e s => some (e, s)) = (r8u64.L0.out (r8u64.L0.add d (r8u64.L0.F d))).eval := lrun_one (F := fun d => r8u64.L0.add d (r8u64.L0.F d)) μ h
theorem r8u64.L0.step {R : Type} (b : (List Int)) (n : Int) (i : Int) (o0_2 : ((List Int) × (Bool × Unit))) (kn : AS → Option R) (kx : Exit → AS → Option R) : lround Tryz.prog r8u64.G r8u64.an 0 Tryz.f115 0 (r8u64.L0.st (b, n, i, o0_2)) kn kx =
  sel ((ilt i (((List.length b) : Nat) : Int))) (
   sel (inb i (((List.length b) : Nat) : Int)) (
   kn (r8u64.L0.st (b, (iadd .u64 (imul .u64 (256 : Int) n) (icv .u64 (nth (.int .u8) b (Int.toNat i)))), (iadd .i64 i (1 : Int)), o0_2))) none) (
   kx (r8u64.L0.ex0 (o0_2, n)).1 (r8u64.L0.ex0 (o0_2, n)).2) := by kernel_rfl
theorem r8u64.eq {R : Type} (o0 : ((List Int) × (Bool × Unit))) (k : GRes → Option R) : arun Tryz.prog r8u64.G r8u64.an 0 Tryz.f115 (r8u64.st o0).1 (r8u64.st o0).2 k =
  obind (r8next.call ((8 : Int), o0)) fun x1 =>
  obind (r8u64.L0.call (x1.1, (0 : Int), (0 : Int), x1.2)) fun x2 =>
  k (r8u64.out (x2.2, x2.1)) := by kernel_rfl


theorem r8u64.L0.ok : ∀ d, r8u64.L0.Pre d → ∃ n, lrun Tryz.prog r8u64.G r8u64.an 0 Tryz.f115 0 n (r8u64.L0.st d) (fun e s => some (e, s)) = (r8u64.L0.out (r8u64.L0.add d (r8u64.L0.F d))).eval := by
  refine r8u64.L0.byRounds (fun (l, n, i, o) => l.length - i.toNat) ?_
  rintro ⟨l, n, i, o⟩ ⟨hb, h8, k, hk, rfl, rfl⟩
  have h8 : l.length ≤ 8 := h8
  have hk : k ≤ l.length := hk
  by_cases h : k < l.length
  · left
    have hx := hb _ (List.getElem_mem h)
    have n1 : nth (.int .u8) l k = l[k] := nth_lt (t := .int .u8) h
    have ht : (l.take k).length = k := by rw [List.length_take]; omega
    have b0 := num8_ok (l := l.take k) fun x hx => hb x (List.mem_of_mem_take hx)
    rw [ht] at b0
    have b1 := pow256_le (show k ≤ 7 by omega)
    have b2 : (256 : Int) ^ 7 = 72057594037927936 := rfl
    refine ⟨(l, num8 (l.take (k + 1)), ((k + 1 : Nat) : Int), o), ⟨hb, h8, k + 1, by omega, rfl, rfl⟩, by simp only [Int.toNat_natCast]; omega, rfl, fun kn kx => ?_⟩
    rw [r8u64.L0.step, ilt_true (by omega), inb_true (by omega) (by omega), Int.toNat_natCast, n1, N.aNL (by omega), times256 b0.1 (by omega) hx, List.take_succ_eq_append_getElem h, num8_snoc]
    rfl
  · right
    obtain rfl : k = l.length := by omega
    intro R kn kx
    rw [r8u64.L0.step, ilt_false (by omega), sel_false, List.take_length]
    rfl
theorem r8u64.ok : ∀ d, r8u64.Pre d → arun Tryz.prog r8u64.G r8u64.an 0 Tryz.f115 (r8u64.st d).1 (r8u64.st d).2 some = some (r8u64.out (r8u64.add d (r8u64.F d))) := by
  intro o h
  have h : RdrB o := h
  have t := takeR_b (n := 8) h
  rw [r8u64.eq, r8next.run (d := (8, o)) ⟨by decide, h.1⟩]
  simp only [obind_some, r8next.add, r8next.F]
  rw [show Int.toNat 8 = 8 from rfl, r8u64.L0.run (d := ((takeR 8 o).1, 0, 0, (takeR 8 o).2)) ⟨t.2.1, t.1, 0, Nat.zero_le _, rfl, rfl⟩]
  rfl

theorem r8u64.inj : ∀ d d', r8u64.st d = r8u64.st d' → d = d' := fun o0 o0' hEq => by
  have e0 : o0 = o0' := d_inj (t := (.pair (.slice (.int .u8)) (.pair .bool .unit))) (congrArg (fun s : List AVal × List Ent => (entD (s.2.getD 0 .dead))) hEq)
  rw [e0]
noncomputable def r8u64.E : Entry := Entry.of [none] r8u64.st r8u64.Pre (fun d => r8u64.add d (r8u64.F d)) r8u64.out
noncomputable def r8u64.call : r8u64.D → Option r8u64.X := fun d => r8u64.E.run (r8u64.st d).1 (r8u64.st d).2
theorem r8u64.run {d : r8u64.D} (h : r8u64.Pre d) : r8u64.call d = some (r8u64.add d (r8u64.F d)) := Entry.of_run r8u64.inj h
theorem r8u64.does : Does Tryz.prog 115 r8u64.E := Does.of (by kernel_rfl) (show Sound _ r8u64.G from Sound.cons r8next.does (Sound.nil _)) (by kernel_rfl) (by kernel_rfl) (by kernel_rfl) (LOk.fn 1 (by kernel_rfl) (And.intro (LDo.of (by kernel_rfl) r8u64.L0.ok) trivial)) r8u64.ok

/-! ### corsned/corsnedref08.Open -/
abbrev r8open.D := (List Int)
def r8open.st : r8open.D → List AVal × List Ent := fun b => ([.d (.slice (.int .u8)) b], [])
abbrev r8open.Y := ((List Int) × (Bool × Unit))
abbrev r8open.X := ((List Int) × (Bool × Unit))
def r8open.out : r8open.X → GRes := fun x => ⟨.ptr (.new 0 0) 0 [] 0, [], [.obj 0 false (.d (.pair (.slice (.int .u8)) (.pair .bool .unit)) x)]⟩
def r8open.add : r8open.D → r8open.Y → r8open.X := fun b y => y


def r8open.Pre : r8open.D → Prop := fun b => b.length ≤ 1000000000
def r8open.F : r8open.D → r8open.Y := fun b => (b, false, ())

noncomputable def r8open.G : Gam := gnil
noncomputable def r8open.an : Ann := {
  objs := [3, 7],
  loops := fun r => { keep := [], sites := [], frz := [], data := [], owns := [] },
  outs := fun r b => { keep := [], sites := [], frz := [], data := [], owns := [] },
  sums := fun r => none,
  owns := [],
  trim := [],
  res := [],
  dats := [⟨2, [.arr], (.pair (.slice (.int .u8)) (.pair .bool .unit))⟩] }
theorem r8open.eq {R : Type} (b : (List Int)) (k : GRes → Option R) : arun Tryz.prog r8open.G r8open.an 0 Tryz.f60 (r8open.st b).1 (r8open.st b).2 k =
  sel (roomA (0 + (List.length b)) 1) (
  sel (decide (0 = 0 ∧ (0 + (0 + (List.length b))) ≤ (List.length ((List.take 0 (List.replicate 0 (0 : Int))) ++ b)))) (
  k (r8open.out ((cut ((List.take 0 (List.replicate 0 (0 : Int))) ++ b) 0 (0 + (List.length b))), (false, ())))) none) none := by kernel_rfl


theorem r8open.ok : ∀ d, r8open.Pre d → arun Tryz.prog r8open.G r8open.an 0 Tryz.f60 (r8open.st d).1 (r8open.st d).2 some = some (r8open.out (r8open.add d (r8open.F d))) := by
  intro b hb
  have hb : b.length ≤ 1000000000 := hb
  have e0 : (List.take 0 (List.replicate 0 0) : List Int) = [] := rfl
  rw [r8open.eq]
  simp only [Nat.zero_add, e0, List.nil_append, Nat.le_refl, and_self, decide_true, sel_true, cut_len]
  rw [room_true (by omega) (by omega)]
  rfl

theorem r8open.inj : ∀ d d', r8open.st d = r8open.st d' → d = d' := fun b b' hEq => by
  have e0 : b = b' := d_inj (t := (.slice (.int .u8))) (congrArg (fun s : List AVal × List Ent => (s.1.getD 0 .undef)) hEq)
  rw [e0]
noncomputable def r8open.E : Entry := Entry.of [some (.slice (.int .u8))] r8open.st r8open.Pre (fun d => r8open.add d (r8open.F d)) r8open.out
noncomputable def r8open.call : r8open.D → Option r8open.X := fun d => r8open.E.run (r8open.st d).1 (r8open.st d).2
theorem r8open.run {d : r8open.D} (h : r8open.Pre d) : r8open.call d = some (r8open.add d (r8open.F d)) := Entry.of_run r8open.inj h
theorem r8open.does : Does Tryz.prog 60 r8open.E := Does.of (by kernel_rfl) (show Sound _ r8open.G from Sound.nil _) (by kernel_rfl) (by kernel_rfl) (by kernel_rfl) (LOk.fn 0 (by kernel_rfl) trivial) r8open.ok


/-- The digits as the document reads them: none by a nought, or as there are no more. -/
def r8F : List Int → Nat → Int → (Int × Nat) ⊕ Bool
  | [], _, _ => .inr false
  | d :: l, a, n => if 8 < a then .inr false else if 0 < a ∧ d = 0 then .inr true else if d < 128 then .inl (n + d % 128 * 128 ^ a, a + 1) else r8F l (a + 1) (n + d % 128 * 128 ^ a)
theorem r8F_num : ∀ (l : List Int) (a : Nat) (n : Int), numF l a n = match r8F l a n with | .inl v => .inl v | .inr _ => .inr ()
  | [], _, _ => rfl
  | d :: l, a, n => by
    rw [numF, r8F]
    by_cases h1 : 8 < a
    · rw [if_pos (Or.inl h1), if_pos h1]
    · by_cases h2 : 0 < a ∧ d = 0
      · rw [if_pos (Or.inr h2), if_neg h1, if_pos h2]
      · rw [if_neg (by rintro (x | x); exact h1 x; exact h2 x), if_neg h1, if_neg h2]
        by_cases h3 : d < 128
        · rw [if_pos h3, if_pos h3]
        · rw [if_neg h3, if_neg h3, r8F_num l]

/-! ### (*corsned/corsnedref08.Reader).Num -/
abbrev r8num.L0.D := Int × Int × Int × ((List Int) × (Bool × Unit))
def r8num.L0.st : r8num.L0.D → AS := fun (n, byv, i, o0_2) => ⟨([.ptr (.old 0) 0 [] 0, .undef, .undef, .d (.int .i64) n, .d (.int .i64) byv, .d (.int .i64) i] ++ undN 53 []), [.obj 0 false (.d (.pair (.slice (.int .u8)) (.pair .bool .unit)) o0_2)], (List.replicate 59 [])⟩
abbrev r8num.L0.Y0 := Int × ((List Int) × (Bool × Unit))  -- t2, o0
abbrev r8num.L0.X0 := Int × ((List Int) × (Bool × Unit))
def r8num.L0.ex0 : r8num.L0.X0 → Exit × AS := fun x => (.ret, ⟨([.ptr (.old 0) 0 [] 0, .undef, .d (.int .i64) x.1] ++ undN 56 []), [.obj 0 false (.d (.pair (.slice (.int .u8)) (.pair .bool .unit)) x.2)], (List.replicate 59 [])⟩)
abbrev r8num.L0.Y1 := Unit
abbrev r8num.L0.X1 := ((List Int) × (Bool × Unit))
def r8num.L0.ex1 : r8num.L0.X1 → Exit × AS := fun x => (.exit 0, ⟨([.ptr (.old 0) 0 [] 0] ++ undN 58 []), [.obj 0 false (.d (.pair (.slice (.int .u8)) (.pair .bool .unit)) x)], (List.replicate 59 [])⟩)
abbrev r8num.L0.X := (r8num.L0.X0) ⊕ (r8num.L0.X1)
abbrev r8num.L0.Y := (r8num.L0.Y0) ⊕ (r8num.L0.Y1)
def r8num.L0.out : r8num.L0.X → Out (Exit × AS) := fun x => .br x.isLeft (.get x.getLeft? fun a => .ok (r8num.L0.ex0 a)) (.get x.getRight? fun b => .ok (r8num.L0.ex1 b))
def r8num.L0.add : r8num.L0.D → r8num.L0.Y → r8num.L0.X := fun (n, byv, i, o0_2) y => match y with | .inl y => .inl y | .inr z => .inr (o0_2)
abbrev r8num.D := ((List Int) × (Bool × Unit))
def r8num.st : r8num.D → List AVal × List Ent := fun o0 => ([.ptr (.old 0) 0 [] 0], [.obj 0 false (.d (.pair (.slice (.int .u8)) (.pair .bool .unit)) o0)])
abbrev r8num.Y := Int × ((List Int) × (Bool × Unit))
abbrev r8num.X := Int × ((List Int) × (Bool × Unit))
def r8num.out : r8num.X → GRes := fun x => ⟨.d (.int .i64) x.1, [.obj 0 false (.d (.pair (.slice (.int .u8)) (.pair .bool .unit)) x.2)], []⟩
def r8num.add : r8num.D → r8num.Y → r8num.X := fun o0 y => y


def r8num.L0.Pre : r8num.L0.D → Prop := fun (n, p, i, o) => RdrB o ∧ ∃ (k m : Nat), k ≤ 9 ∧ i = k ∧ n = m ∧ m < 128 ^ k ∧ (k ≤ 8 → p = ((128 ^ k : Nat) : Int))
def r8num.L0.F : r8num.L0.D → r8num.L0.Y := fun (n, p, i, o) => match r8F (o.1.drop i.toNat) i.toNat n with | .inl v => .inl (v.1, (o.1.drop v.2, o.2)) | .inr true => .inl (0, failR) | .inr false => .inr ()
def r8num.Pre : r8num.D → Prop := fun o => RdrB o
def r8num.F : r8num.D → r8num.Y := fun o => numR o
theorem digit_add {n d k : Nat} (hk : k ≤ 8) (hn : n < 128 ^ k) (hd : d < 128) : iadd .i64 (n : Int) (imul .i64 (d : Int) ((128 ^ k : Nat) : Int)) = ((n + d * 128 ^ k : Nat) : Int) := by
  have p : 128 ^ k ≤ 128 ^ 8 := Nat.pow_le_pow_right (by decide) hk
  have p8 : 128 ^ 8 = 72057594037927936 := rfl
  have e3 : d * 128 ^ k ≤ 127 * 128 ^ k := Nat.mul_le_mul_right _ (by omega)
  rw [N.mNN (by omega), N.aNN (by omega)]

noncomputable def r8num.G : Gam := gcons 125 anyArgs r8fail.E (gnil)
noncomputable def r8num.L0.E : LEntry := LEntry.of r8num.L0.st r8num.L0.Pre (fun d => r8num.L0.add d (r8num.L0.F d)) r8num.L0.out
noncomputable def r8num.L0.call : r8num.L0.D → Option r8num.L0.X := fun d => r8num.L0.E.run (r8num.L0.st d)
noncomputable def r8num.an : Ann := {
  objs := [],
  loops := fun r => bif Nat.beq r 4 then { keep := [0, 3, 4, 5], sites := [], frz := [], data := [], owns := [] } else { keep := [], sites := [], frz := [], data := [], owns := [] },
  outs := fun r b => bif Nat.beq r 4 then (bif b then { keep := [0, 2], sites := [], frz := [], data := [], owns := [] } else { keep := [0], sites := [], frz := [], data := [], owns := [] }) else { keep := [], sites := [], frz := [], data := [], owns := [] },
  sums := fun r => bif Nat.beq r 4 then some r8num.L0.E else none,
  owns := [],
  trim := [],
  res := [],
  dats := [⟨0, [.arr], (.pair (.slice (.int .u8)) (.pair .bool .unit))⟩] }
theorem r8num.L0.inj : ∀ d d', r8num.L0.st d = r8num.L0.st d' → d = d' := fun (n, byv, i, o0_2) (n', byv', i', o0_2') hEq => by
  have e0 : n = n' := d_inj (t := (.int .i64)) (congrArg (fun s : AS => (s.slot 3)) hEq)
  have e1 : byv = byv' := d_inj (t := (.int .i64)) (congrArg (fun s : AS => (s.slot 4)) hEq)
  have e2 : i = i' := d_inj (t := (.int .i64)) (congrArg (fun s : AS => (s.slot 5)) hEq)
  have e3 : o0_2 = o0_2' := d_inj (t := (.pair (.slice (.int .u8)) (.pair .bool .unit))) (congrArg (fun s : AS => (entC (s.ent (.old 0)))) hEq)
  rw [e0, e1, e2, e3]
theorem r8num.L0.run {d : r8num.L0.D} (h : r8num.L0.Pre d) : r8num.L0.call d = some (r8num.L0.add d (r8num.L0.F d)) := LEntry.of_run r8num.L0.inj h
theorem r8num.L0.byRounds (μ : r8num.L0.D → Nat) (h : ∀ d, r8num.L0.Pre d → (∃ d', r8num.L0.Pre d' ∧ μ d' < μ d ∧ r8num.L0.add d' (r8num.L0.F d') = r8num.L0.add d (r8num.L0.F d) ∧ ∀ {R : Type} (kn : AS → Option R) (kx : Exit → AS → Option R), lround Tryz.prog r8num.G r8num.an 0 Tryz.f81 0 (r8num.L0.st d) kn kx = kn (r8num.L0.st d')) ∨ (∃ r, (r8num.L0.out (r8num.L0.add d (r8num.L0.F d))).eval = some r ∧ ∀ {R : Type} (kn : AS → Option R) (kx : Exit → AS → Option R), lround Tryz.prog r8num.G r8num.an 0 Tryz.f81 0 (r8num.L0.st d) kn kx = kx r.1 r.2)) : ∀ d, r8num.L0.Pre d → ∃ n, lrun Tryz.prog r8num.G r8num.an 0 Tryz.f81 0 n (r8num.L0.st d) (fun e s => some (e, s)) = (r8num.L0.out (r8num.L0.add d (r8num.L0.F d))).eval := lrun_of (F := fun d => r8num.L0.add d (r8num.L0.F d)) (out := r8num.L0.out) μ h
theorem r8num.L0.step {R : Type} (n : Int) (byv : Int) (i : Int) (o0_2 : ((List Int) × (Bool × Unit))) (kn : AS → Option R) (kx : Exit → AS → Option R) : lround Tryz.prog r8num.G r8num.an 0 Tryz.f81 0 (r8num.L0.st (n, byv, i, o0_2)) kn kx =
  sel ((ilt i (((List.length o0_2.1) : Nat) : Int))) (
   sel ((ilt i (9 : Int))) (
    sel (inb i (((List.length o0_2.1) : Nat) : Int)) (
    sel ((ieq (icv .i64 (nth (.int .u8) o0_2.1 (Int.toNat i))) (0 : Int))) (
     sel ((igt i (0 : Int))) (
      obind (r8fail.call o0_2) fun x1 =>
      kx (r8num.L0.ex0 ((0 : Int), x1)).1 (r8num.L0.ex0 ((0 : Int), x1)).2) (
      sel ((ilt (icv .i64 (nth (.int .u8) o0_2.1 (Int.toNat i))) (128 : Int))) (
       sel (inc (iadd .i64 i (1 : Int)) (((List.length o0_2.1) : Nat) : Int)) (
       kx (r8num.L0.ex0 ((iadd .i64 n (imul .i64 (irem (icv .i64 (nth (.int .u8) o0_2.1 (Int.toNat i))) (128 : Int)) byv)), ((cut o0_2.1 (Int.toNat (iadd .i64 i (1 : Int))) ((List.length o0_2.1) - (Int.toNat (iadd .i64 i (1 : Int))))), o0_2.2))).1 (r8num.L0.ex0 ((iadd .i64 n (imul .i64 (irem (icv .i64 (nth (.int .u8) o0_2.1 (Int.toNat i))) (128 : Int)) byv)), ((cut o0_2.1 (Int.toNat (iadd .i64 i (1 : Int))) ((List.length o0_2.1) - (Int.toNat (iadd .i64 i (1 : Int))))), o0_2.2))).2) none) (
       kn (r8num.L0.st ((iadd .i64 n (imul .i64 (irem (icv .i64 (nth (.int .u8) o0_2.1 (Int.toNat i))) (128 : Int)) byv)), (imul .i64 (128 : Int) byv), (iadd .i64 i (1 : Int)), o0_2))))) (
     sel ((ilt (icv .i64 (nth (.int .u8) o0_2.1 (Int.toNat i))) (128 : Int))) (
      sel (inc (iadd .i64 i (1 : Int)) (((List.length o0_2.1) : Nat) : Int)) (
      kx (r8num.L0.ex0 ((iadd .i64 n (imul .i64 (irem (icv .i64 (nth (.int .u8) o0_2.1 (Int.toNat i))) (128 : Int)) byv)), ((cut o0_2.1 (Int.toNat (iadd .i64 i (1 : Int))) ((List.length o0_2.1) - (Int.toNat (iadd .i64 i (1 : Int))))), o0_2.2))).1 (r8num.L0.ex0 ((iadd .i64 n (imul .i64 (irem (icv .i64 (nth (.int .u8) o0_2.1 (Int.toNat i))) (128 : Int)) byv)), ((cut o0_2.1 (Int.toNat (iadd .i64 i (1 : Int))) ((List.length o0_2.1) - (Int.toNat (iadd .i64 i (1 : Int))))), o0_2.2))).2) none) (
      kn (r8num.L0.st ((iadd .i64 n (imul .i64 (irem (icv .i64 (nth (.int .u8) o0_2.1 (Int.toNat i))) (128 : Int)) byv)), (imul .i64 (128 : Int) byv), (iadd .i64 i (1 : Int)), o0_2))))) none) (
    kx (r8num.L0.ex1 o0_2).1 (r8num.L0.ex1 o0_2).2)) (
   kx (r8num.L0.ex1 o0_2).1 (r8num.L0.ex1 o0_2).2) := by kernel_rfl
theorem r8num.eq {R : Type} (o0 : ((List Int) × (Bool × Unit))) (k : GRes → Option R) : arun Tryz.prog r8num.G r8num.an 0 Tryz.f81 (r8num.st o0).1 (r8num.st o0).2 k =
  obind (r8num.L0.call ((0 : Int), (1 : Int), (0 : Int), o0)) fun x2 =>
  sel (x2.isLeft) (
   obind (x2.getLeft?) fun a3 =>
   k (r8num.out (a3.1, a3.2))) (
   obind (x2.getRight?) fun b4 =>
   obind (r8fail.call b4) fun x5 =>
   k (r8num.out ((0 : Int), x5))) := by kernel_rfl


theorem r8num.L0.ok : ∀ d, r8num.L0.Pre d → ∃ n, lrun Tryz.prog r8num.G r8num.an 0 Tryz.f81 0 n (r8num.L0.st d) (fun e s => some (e, s)) = (r8num.L0.out (r8num.L0.add d (r8num.L0.F d))).eval := by
  refine r8num.L0.byRounds (fun (n, p, i, o) => 9 - i.toNat) ?_
  rintro ⟨n, p, i, o⟩ ⟨hr, k, m, hk, rfl, rfl, hm, hp⟩
  have hk : k ≤ 9 := hk
  have hr : RdrB o := hr
  have hl := hr.1
  by_cases h : k < o.1.length
  · have hx := hr.2 _ (List.getElem_mem h)
    obtain ⟨x1, x2⟩ := hx
    have n1 : nth (.int .u8) o.1 k = o.1[k] := nth_lt (t := .int .u8) h
    by_cases h9 : 8 < k
    · right
      have hf : r8F (o.1.drop k) k (m : Int) = .inr false := by rw [List.drop_eq_getElem_cons h, r8F, if_pos h9]
      refine ⟨r8num.L0.ex1 o, ?_, fun kn kx => ?_⟩
      · simp only [r8num.L0.add, r8num.L0.F, Int.toNat_natCast, hf]
        rfl
      · rw [r8num.L0.step, ilt_true (by omega), ilt_false (by omega)]; rfl
    · have hp : p = ((128 ^ k : Nat) : Int) := hp (by omega)
      subst hp
      obtain ⟨dn, hdn⟩ : ∃ d : Nat, o.1[k] = d := ⟨o.1[k].toNat, by omega⟩
      have g := digit_or (n := m) (d := dn % 128) (k := k) (by omega) hm (by omega)
      have e2 : cut o.1 (k + 1) (o.1.length - (k + 1)) = o.1.drop (k + 1) := by unfold cut; rw [List.take_of_length_le]; rw [List.length_drop]; omega
      by_cases hz : 0 < k ∧ o.1[k] = 0
      · right
        have hf : r8F (o.1.drop k) k (m : Int) = .inr true := by rw [List.drop_eq_getElem_cons h, r8F, if_neg h9, if_pos hz]
        refine ⟨r8num.L0.ex0 (0, failR), ?_, fun kn kx => ?_⟩
        · simp only [r8num.L0.add, r8num.L0.F, Int.toNat_natCast, hf]
          rfl
        · rw [r8num.L0.step, ilt_true (by omega), ilt_true (by omega), inb_true (by omega) (by omega), Int.toNat_natCast, n1, hz.2, show icv .i64 (0 : Int) = 0 from rfl, ieq_true rfl, igt_true (by omega), r8fail.run (d := o) trivial]
          rfl
      · have ef : r8F (o.1.drop k) k (m : Int) = if o.1[k] < 128 then .inl (((m + dn % 128 * 128 ^ k : Nat) : Int), k + 1) else r8F (o.1.drop (k + 1)) (k + 1) ((m + dn % 128 * 128 ^ k : Nat) : Int) := by
          have ec : (m : Int) + o.1[k] % 128 * 128 ^ k = ((m + dn % 128 * 128 ^ k : Nat) : Int) := by rw [hdn, pow128, Int.natCast_add, Int.natCast_mul]; rfl
          rw [List.drop_eq_getElem_cons h, r8F, if_neg h9, if_neg hz, ec]
        have step : ∀ {R : Type} (kn : AS → Option R) (kx : Exit → AS → Option R), lround Tryz.prog r8num.G r8num.an 0 Tryz.f81 0 (r8num.L0.st ((m : Int), ((128 ^ k : Nat) : Int), (k : Int), o)) kn kx = sel (ilt o.1[k] 128) (kx (r8num.L0.ex0 (((m + dn % 128 * 128 ^ k : Nat) : Int), (o.1.drop (k + 1), o.2))).1 (r8num.L0.ex0 (((m + dn % 128 * 128 ^ k : Nat) : Int), (o.1.drop (k + 1), o.2))).2) (kn (r8num.L0.st (((m + dn % 128 * 128 ^ k : Nat) : Int), imul .i64 (128 : Int) ((128 ^ k : Nat) : Int), ((k + 1 : Nat) : Int), o))) := by
          intro R kn kx
          rw [r8num.L0.step, ilt_true (by omega), ilt_true (by omega), inb_true (by omega) (by omega), Int.toNat_natCast, n1, hdn, N.cN (by omega), N.rNL, N.aNL (by omega), digit_add (by omega) hm (by omega), Int.toNat_natCast, e2, inc_true (by omega) (by omega)]
          simp only [sel_true]
          by_cases hd0 : (dn : Int) = 0
          · rw [ieq_true hd0, sel_true, igt_false (by intro x; exact hz ⟨by omega, by rw [hdn]; exact hd0⟩), sel_false]
          · rw [ieq_false hd0, sel_false]
        by_cases hlt : o.1[k] < 128
        · right
          refine ⟨r8num.L0.ex0 (((m + dn % 128 * 128 ^ k : Nat) : Int), (o.1.drop (k + 1), o.2)), ?_, fun kn kx => ?_⟩
          · simp only [r8num.L0.add, r8num.L0.F, Int.toNat_natCast, ef, if_pos hlt]
            rfl
          · rw [step, ilt_true hlt, sel_true]
        · left
          refine ⟨(((m + dn % 128 * 128 ^ k : Nat) : Int), imul .i64 (128 : Int) ((128 ^ k : Nat) : Int), ((k + 1 : Nat) : Int), o), ⟨hr, k + 1, _, by omega, rfl, rfl, g.2.1, fun hk8 => ?_⟩, by simp only [Int.toNat_natCast]; omega, ?_, fun kn kx => ?_⟩
          · have p : 128 ^ (k + 1) ≤ 128 ^ 8 := Nat.pow_le_pow_right (by decide) hk8
            have p8 : 128 ^ 8 = 72057594037927936 := rfl
            have e1 : 128 ^ (k + 1) = 128 ^ k * 128 := Nat.pow_succ (n := 128) (m := k)
            rw [N.mLN (by omega), e1, Nat.mul_comm]
          · simp only [r8num.L0.add, r8num.L0.F, Int.toNat_natCast, ef, if_neg hlt]
          · rw [step, ilt_false hlt, sel_false]
  · right
    have hf : r8F (o.1.drop k) k (m : Int) = .inr false := by rw [List.drop_of_length_le (by omega)]; rfl
    refine ⟨r8num.L0.ex1 o, ?_, fun kn kx => ?_⟩
    · simp only [r8num.L0.add, r8num.L0.F, Int.toNat_natCast, hf]
      rfl
    · rw [r8num.L0.step, ilt_false (by omega)]; rfl
theorem r8num.ok : ∀ d, r8num.Pre d → arun Tryz.prog r8num.G r8num.an 0 Tryz.f81 (r8num.st d).1 (r8num.st d).2 some = some (r8num.out (r8num.add d (r8num.F d))) := by
  intro o h
  have h : RdrB o := h
  rw [r8num.eq, r8num.L0.run (d := (0, 1, 0, o)) ⟨h, 0, 0, by decide, rfl, rfl, by decide, fun _ => rfl⟩]
  simp only [obind_some, r8num.L0.add, r8num.L0.F, Int.toNat_zero, List.drop_zero, r8num.add, r8num.F, numR]
  rw [r8F_num]
  cases r8F o.1 0 0 with
  | inl v => rfl
  | inr z =>
    cases z
    · simp only [Sum.isLeft_inr, Sum.getRight?_inr, sel_false, obind_some]
      rw [r8fail.run (d := o) trivial]
      rfl
    · rfl

theorem r8num.inj : ∀ d d', r8num.st d = r8num.st d' → d = d' := fun o0 o0' hEq => by
  have e0 : o0 = o0' := d_inj (t := (.pair (.slice (.int .u8)) (.pair .bool .unit))) (congrArg (fun s : List AVal × List Ent => (entD (s.2.getD 0 .dead))) hEq)
  rw [e0]
noncomputable def r8num.E : Entry := Entry.of [none] r8num.st r8num.Pre (fun d => r8num.add d (r8num.F d)) r8num.out
noncomputable def r8num.call : r8num.D → Option r8num.X := fun d => r8num.E.run (r8num.st d).1 (r8num.st d).2
theorem r8num.run {d : r8num.D} (h : r8num.Pre d) : r8num.call d = some (r8num.add d (r8num.F d)) := Entry.of_run r8num.inj h
theorem r8num.does : Does Tryz.prog 81 r8num.E := Does.of (by kernel_rfl) (show Sound _ r8num.G from Sound.cons r8fail.does (Sound.nil _)) (by kernel_rfl) (by kernel_rfl) (by kernel_rfl) (LOk.fn 1 (by kernel_rfl) (And.intro (LDo.of (by kernel_rfl) r8num.L0.ok) trivial)) r8num.ok

end Go.Ab
namespace Go.Ab
open Go.Proofs
set_option maxRecDepth 100000
set_option linter.unusedVariables false
set_option linter.unusedSimpArgs false


theorem bytes_app {a b : List Int} (ha : Bytes a) (hb : Bytes b) : Bytes (a ++ b) := fun x hx => by
  rcases List.mem_append.1 hx with h | h
  · exact ha x h
  · exact hb x h
theorem bytes_left {a b : List Int} (h : Bytes (a ++ b)) : Bytes a := fun x hx => h x (List.mem_append_left _ hx)
theorem bytes_right {a b : List Int} (h : Bytes (a ++ b)) : Bytes b := fun x hx => h x (List.mem_append_right _ hx)
theorem rowI_bytes : ∀ (f : Nat) (n : Int), 0 ≤ n → n < 128 ^ (f + 1) → Bytes (rowI f n).1 ∧ Byte (rowI f n).2
  | 0, n, h0, h1 => by have h1 : n < 128 := h1; exact ⟨fun x hx => (by cases hx), h0, by show n < 256; omega⟩
  | f + 1, n, h0, h1 => by
    have e : (128 : Int) ^ (f + 1 + 1) = 128 ^ (f + 1) * 128 := Int.pow_succ 128 (f + 1)
    rw [rowI]
    split
    · have ih := rowI_bytes f (n / 128) (by omega) (by omega)
      refine ⟨fun x hx => ?_, ih.2⟩
      rcases List.mem_cons.1 hx with rfl | hx
      · exact ⟨by omega, by omega⟩
      · exact ih.1 x hx
    · exact ⟨fun x hx => (by cases hx), h0, by show n < 256; omega⟩
theorem row_bytes {n : Int} (h : NatI n) : Bytes (rowN n) := by
  have e10 : (128 : Int) ^ (10 + 1) = 151115727451828646838272 := rfl
  obtain ⟨h0, h1⟩ := h
  have := rowI_bytes 10 n h0 (by rw [e10]; omega)
  unfold rowN
  exact bytes_app this.1 fun x hx => by rw [List.mem_singleton] at hx; subst hx; exact this.2
theorem keysB_eq : ∀ (ks : List Int) (o : List Int), keysB o ks = o ++ ks.flatMap be8
  | [], o => by rw [List.flatMap_nil, List.append_nil]; rfl
  | k :: ks, o => by
    show keysB (o ++ be8 k) ks = _
    rw [keysB_eq ks, List.flatMap_cons, List.append_assoc]
theorem keys_len (ks : List Int) : (ks.flatMap be8).length = 8 * ks.length := by
  have e1 := keysB_len ks []
  rw [keysB_eq, List.nil_append] at e1
  rw [e1]
  show 0 + _ = _
  omega
theorem keys_bytes (ks : List Int) : Bytes (ks.flatMap be8) := fun x hx => by
  obtain ⟨k, _, hk⟩ := List.mem_flatMap.1 hx
  exact bytes_be8 k x hk
/-- A branch's own bytes. -/
def brW (b : Brn) : List Int := rowN b.1.length ++ (b.1.flatMap be8 ++ (rowN b.2.1 ++ (rowN b.2.2.1 ++ be8 b.2.2.2.1)))
theorem putN_eq (o : List Int) {n : Int} (h : 0 ≤ n) : putN o n = o ++ rowN n := by rw [putN, if_neg (by omega)]
structure BrK (b : Brn) : Prop where
  len : b.1.length ≤ 12
  af : NatI b.2.1
  dl : NatI b.2.2.1
theorem brOk_k {b : Brn} (h : brOk b = true) : BrK b := by
  unfold brOk htOk at h
  simp only [Bool.and_eq_true, decide_eq_true_eq] at h
  obtain ⟨h1, _, h2, h3, _⟩ := h
  exact ⟨h1, ⟨h2.1, by omega⟩, ⟨h3.1, by omega⟩⟩
theorem natI_len {n : Nat} (h : n ≤ 1000000000) : NatI (n : Int) := ⟨by omega, by omega⟩
theorem brB_eq (o : List Int) {b : Brn} (h : BrK b) : brB o b = o ++ brW b := by
  unfold brB brW
  rw [putN_eq _ (Int.natCast_nonneg _), keysB_eq, putN_eq _ h.af.1, putN_eq _ h.dl.1]
  simp only [List.append_assoc]
theorem brsB_eq : ∀ (bs : List Brn) (o : List Int), (∀ b ∈ bs, BrK b) → bs.foldl brB o = o ++ bs.flatMap brW
  | [], o, _ => by rw [List.flatMap_nil, List.append_nil]; rfl
  | b :: bs, o, h => by
    rw [List.foldl_cons, brB_eq o (h b List.mem_cons_self), brsB_eq bs _ fun x hx => h x (List.mem_cons_of_mem _ hx), List.flatMap_cons, List.append_assoc]
theorem lkOk_k {l : Lk} (h : lkOk l = true) : (∀ b ∈ l.1, BrK b) ∧ 0 < l.1.length ∧ l.1.length ≤ 4 := by
  unfold lkOk at h
  simp only [Bool.and_eq_true, List.all_eq_true, decide_eq_true_eq] at h
  exact ⟨fun b hb => brOk_k (h.1 b hb), h.2⟩
theorem lkB_eq {l : Lk} (h : lkOk l = true) : lkB l = rowN l.1.length ++ l.1.flatMap brW := by
  unfold lkB
  rw [if_pos h, brsB_eq _ _ (lkOk_k h).1, putN_eq _ (Int.natCast_nonneg _), List.nil_append]
theorem brW_bytes {b : Brn} (h : BrK b) : Bytes (brW b) :=
  have h12 := h.len
  bytes_app (row_bytes (natI_len (by omega))) (bytes_app (keys_bytes _) (bytes_app (row_bytes h.af) (bytes_app (row_bytes h.dl) (bytes_be8 _))))
theorem lkB_bytes (l : Lk) : Bytes (lkB l) := by
  cases h : lkOk l
  · unfold lkB
    rw [h, if_neg (by decide)]
    exact fun x hx => (by cases hx)
  · have hk := lkOk_k h
    rw [lkB_eq h]
    refine bytes_app (row_bytes (natI_len (by omega))) fun x hx => ?_
    obtain ⟨b, hb, hx⟩ := List.mem_flatMap.1 hx
    exact brW_bytes (hk.1 b hb) x hx
theorem rdr_of {b : List Int} (h : Bytes b) (hl : b.length ≤ 1000000000) (u : Bool × Unit) : RdrB (b, u) := ⟨hl, h⟩
theorem rdr_right {a b : List Int} {u : Bool × Unit} (h : RdrB (a ++ b, u)) : RdrB (b, u) := ⟨by have := h.1; rw [List.length_append] at this; show b.length ≤ _; omega, bytes_right h.2⟩
theorem rnum_is {n : Int} {rest : List Int} {u : Bool × Unit} (hn : NatI n) (h : RdrB (rowN n ++ rest, u)) : rnum.call (rowN n ++ rest, u) = some (n, (rest, u)) := by
  rw [rnum.run (d := (rowN n ++ rest, u)) h, ← numR_row n hn rest u]
  rfl
theorem ru64_is {n : Int} {rest : List Int} (hn : U64 n) (h : RdrB (be8 n ++ rest, false, ())) : ru64.call (be8 n ++ rest, false, ()) = some (n, (rest, false, ())) := by
  rw [ru64.run (d := (be8 n ++ rest, false, ())) h, ← u64R_be8 n hn rest]
  rfl

end Go.Ab
namespace Go.Ab
open Go.Proofs
set_option maxRecDepth 100000
set_option linter.unusedVariables false
set_option linter.unusedSimpArgs false

/-! ### slices.Equal[[]byte,byte] -/
abbrev beq8.L0.D := (List Int) × (List Int) × Int × Int
def beq8.L0.st : beq8.L0.D → AS := fun (s1_2, s2_2, t12, t13) => ⟨([.d (.slice (.int .u8)) s1_2, .d (.slice (.int .u8)) s2_2] ++ undN 10 ([.d (.int .i64) t12, .d (.int .i64) t13] ++ undN 12 [])), [], (List.replicate 26 [])⟩
abbrev beq8.L0.Y0 := Unit
abbrev beq8.L0.X0 := Unit
def beq8.L0.ex0 : beq8.L0.X0 → Exit × AS := fun x => (.ret, ⟨(undN 4 ([.d .bool false] ++ undN 21 [])), [], (List.replicate 26 [])⟩)
abbrev beq8.L0.Y1 := Unit
abbrev beq8.L0.X1 := Unit
def beq8.L0.ex1 : beq8.L0.X1 → Exit × AS := fun x => (.exit 0, ⟨(undN 26 []), [], (List.replicate 26 [])⟩)
abbrev beq8.L0.X := (beq8.L0.X0) ⊕ (beq8.L0.X1)
abbrev beq8.L0.Y := (beq8.L0.Y0) ⊕ (beq8.L0.Y1)
def beq8.L0.out : beq8.L0.X → Out (Exit × AS) := fun x => .br x.isLeft (.get x.getLeft? fun a => .ok (beq8.L0.ex0 a)) (.get x.getRight? fun b => .ok (beq8.L0.ex1 b))
def beq8.L0.add : beq8.L0.D → beq8.L0.Y → beq8.L0.X := fun (s1_2, s2_2, t12, t13) y => match y with | .inl y => .inl y | .inr z => .inr (z)
abbrev beq8.D := (List Int) × (List Int)
def beq8.st : beq8.D → List AVal × List Ent := fun (s1, s2) => ([.d (.slice (.int .u8)) s1, .d (.slice (.int .u8)) s2], [])
abbrev beq8.Y := Bool
abbrev beq8.X := Bool
def beq8.out : beq8.X → GRes := fun x => ⟨.d .bool x, [], []⟩
def beq8.add : beq8.D → beq8.Y → beq8.X := fun (s1, s2) y => y


def beq8.L0.Pre : beq8.L0.D → Prop := fun (a, b, m, i) => a.length ≤ 1000000000 ∧ a.length = b.length ∧ m = a.length ∧ ∃ k : Nat, k ≤ a.length ∧ i = k
def beq8.L0.F : beq8.L0.D → beq8.L0.Y := fun (a, b, m, i) => if a.drop i.toNat = b.drop i.toNat then .inr () else .inl ()
def beq8.Pre : beq8.D → Prop := fun (a, b) => a.length ≤ 1000000000
def beq8.F : beq8.D → beq8.Y := fun (a, b) => decide (a = b)

noncomputable def beq8.G : Gam := gnil
noncomputable def beq8.L0.E : LEntry := LEntry.of beq8.L0.st beq8.L0.Pre (fun d => beq8.L0.add d (beq8.L0.F d)) beq8.L0.out
noncomputable def beq8.L0.call : beq8.L0.D → Option beq8.L0.X := fun d => beq8.L0.E.run (beq8.L0.st d)
noncomputable def beq8.an : Ann := {
  objs := [],
  loops := fun r => bif Nat.beq r 4 then { keep := [0, 1, 12, 13], sites := [], frz := [], data := [], owns := [] } else { keep := [], sites := [], frz := [], data := [], owns := [] },
  outs := fun r b => bif Nat.beq r 4 then (bif b then { keep := [4], sites := [], frz := [], data := [], owns := [] } else { keep := [], sites := [], frz := [], data := [], owns := [] }) else { keep := [], sites := [], frz := [], data := [], owns := [] },
  sums := fun r => bif Nat.beq r 4 then some beq8.L0.E else none,
  owns := [],
  trim := [],
  res := [] }
theorem beq8.L0.inj : ∀ d d', beq8.L0.st d = beq8.L0.st d' → d = d' := fun (s1_2, s2_2, t12, t13) (s1_2', s2_2', t12', t13') hEq => by
  have e0 : s1_2 = s1_2' := d_inj (t := (.slice (.int .u8))) (congrArg (fun s : AS => (s.slot 0)) hEq)
  have e1 : s2_2 = s2_2' := d_inj (t := (.slice (.int .u8))) (congrArg (fun s : AS => (s.slot 1)) hEq)
  have e2 : t12 = t12' := d_inj (t := (.int .i64)) (congrArg (fun s : AS => (s.slot 12)) hEq)
  have e3 : t13 = t13' := d_inj (t := (.int .i64)) (congrArg (fun s : AS => (s.slot 13)) hEq)
  rw [e0, e1, e2, e3]
theorem beq8.L0.run {d : beq8.L0.D} (h : beq8.L0.Pre d) : beq8.L0.call d = some (beq8.L0.add d (beq8.L0.F d)) := LEntry.of_run beq8.L0.inj h
theorem beq8.L0.byRounds (μ : beq8.L0.D → Nat) (h : ∀ d, beq8.L0.Pre d → (∃ d', beq8.L0.Pre d' ∧ μ d' < μ d ∧ beq8.L0.add d' (beq8.L0.F d') = beq8.L0.add d (beq8.L0.F d) ∧ ∀ {R : Type} (kn : AS → Option R) (kx : Exit → AS → Option R), lround Tryz.prog beq8.G beq8.an 0 Tryz.f58 0 (beq8.L0.st d) kn kx = kn (beq8.L0.st d')) ∨ (∃ r, (beq8.L0.out (beq8.L0.add d (beq8.L0.F d))).eval = some r ∧ ∀ {R : Type} (kn : AS → Option R) (kx : Exit → AS → Option R), lround Tryz.prog beq8.G beq8.an 0 Tryz.f58 0 (beq8.L0.st d) kn kx = kx r.1 r.2)) : ∀ d, beq8.L0.Pre d → ∃ n, lrun Tryz.prog beq8.G beq8.an 0 Tryz.f58 0 n (beq8.L0.st d) (fun e s => some (e, s)) = (beq8.L0.out (beq8.L0.add d (beq8.L0.F d))).eval := lrun_of (F := fun d => beq8.L0.add d (beq8.L0.F d)) (out := beq8.L0.out) μ h
theorem beq8.L0.step {R : Type} (s1_2 : (List Int)) (s2_2 : (List Int)) (t12 : Int) (t13 : Int) (kn : AS → Option R) (kx : Exit → AS → Option R) : lround Tryz.prog beq8.G beq8.an 0 Tryz.f58 0 (beq8.L0.st (s1_2, s2_2, t12, t13)) kn kx =
  sel ((ilt t13 t12)) (
   sel (inb t13 (((List.length s1_2) : Nat) : Int)) (
   sel (inb t13 (((List.length s2_2) : Nat) : Int)) (
   sel ((ine (nth (.int .u8) s1_2 (Int.toNat t13)) (nth (.int .u8) s2_2 (Int.toNat t13)))) (
    kx (beq8.L0.ex0 ()).1 (beq8.L0.ex0 ()).2) (
    kn (beq8.L0.st (s1_2, s2_2, t12, (iadd .i64 t13 (1 : Int)))))) none) none) (
   kx (beq8.L0.ex1 ()).1 (beq8.L0.ex1 ()).2) := by kernel_rfl
theorem beq8.eq {R : Type} (s1 : (List Int)) (s2 : (List Int)) (k : GRes → Option R) : arun Tryz.prog beq8.G beq8.an 0 Tryz.f58 (beq8.st (s1, s2)).1 (beq8.st (s1, s2)).2 k =
  sel ((ine (((List.length s1) : Nat) : Int) (((List.length s2) : Nat) : Int))) (
   k (beq8.out false)) (
   obind (beq8.L0.call (s1, s2, (((List.length s1) : Nat) : Int), (0 : Int))) fun x1 =>
   sel (x1.isLeft) (
    obind (x1.getLeft?) fun a2 =>
    k (beq8.out false)) (
    obind (x1.getRight?) fun b3 =>
    k (beq8.out true))) := by kernel_rfl


theorem beq8.L0.ok : ∀ d, beq8.L0.Pre d → ∃ n, lrun Tryz.prog beq8.G beq8.an 0 Tryz.f58 0 n (beq8.L0.st d) (fun e s => some (e, s)) = (beq8.L0.out (beq8.L0.add d (beq8.L0.F d))).eval := by
  refine beq8.L0.byRounds (fun (a, b, m, i) => a.length - i.toNat) ?_
  rintro ⟨a, b, m, i⟩ ⟨hl, hab, rfl, k, hk, rfl⟩
  have hl : a.length ≤ 1000000000 := hl
  have hab : a.length = b.length := hab
  have hk : k ≤ a.length := hk
  by_cases h : k < a.length
  · have h2 : k < b.length := by omega
    have n1 : nth (.int .u8) a k = a[k] := nth_lt (t := (.int .u8)) h
    have n2 : nth (.int .u8) b k = b[k] := nth_lt (t := (.int .u8)) h2
    have hd : (a.drop k = b.drop k) = (a[k] = b[k] ∧ a.drop (k + 1) = b.drop (k + 1)) := by rw [List.drop_eq_getElem_cons h, List.drop_eq_getElem_cons h2, List.cons.injEq]
    have step : ∀ {R : Type} (kn : AS → Option R) (kx : Exit → AS → Option R), lround Tryz.prog beq8.G beq8.an 0 Tryz.f58 0 (beq8.L0.st (a, b, (a.length : Int), (k : Int))) kn kx = if a[k] = b[k] then kn (beq8.L0.st (a, b, (a.length : Int), ((k + 1 : Nat) : Int))) else kx (beq8.L0.ex0 ()).1 (beq8.L0.ex0 ()).2 := by
      intro R kn kx
      rw [beq8.L0.step, ilt_true (by omega), inb_true (by omega) (by omega), inb_true (by omega) (by omega), Int.toNat_natCast, n1, n2, N.aNL (by omega)]
      simp only [sel_true]
      by_cases hx : a[k] = b[k]
      · rw [ine_false hx, if_pos hx]; rfl
      · rw [ine_true hx, if_neg hx]; rfl
    by_cases hx : a[k] = b[k]
    · left
      refine ⟨(a, b, (a.length : Int), ((k + 1 : Nat) : Int)), ⟨hl, hab, rfl, k + 1, by omega, rfl⟩, by simp only [Int.toNat_natCast]; omega, ?_, fun kn kx => ?_⟩
      · simp only [beq8.L0.add, beq8.L0.F, Int.toNat_natCast, hd, hx, true_and]
      · rw [step, if_pos hx]
    · right
      refine ⟨beq8.L0.ex0 (), ?_, fun kn kx => ?_⟩
      · simp only [beq8.L0.add, beq8.L0.F, Int.toNat_natCast, hd, hx, false_and, if_false]
        rfl
      · rw [step, if_neg hx]
  · right
    obtain rfl : k = a.length := by omega
    refine ⟨beq8.L0.ex1 (), ?_, fun kn kx => ?_⟩
    · simp only [beq8.L0.add, beq8.L0.F, Int.toNat_natCast, List.drop_length]
      rw [hab, List.drop_length, if_pos rfl]
      rfl
    · rw [beq8.L0.step, ilt_false (by omega), sel_false]
theorem beq8.ok : ∀ d, beq8.Pre d → arun Tryz.prog beq8.G beq8.an 0 Tryz.f58 (beq8.st d).1 (beq8.st d).2 some = some (beq8.out (beq8.add d (beq8.F d))) := by
  rintro ⟨a, b⟩ hl
  have hl : a.length ≤ 1000000000 := hl
  rw [beq8.eq]
  simp only [beq8.add, beq8.F]
  by_cases h : a.length = b.length
  · rw [ine_false (by omega), sel_false, beq8.L0.run (d := (a, b, (a.length : Int), 0)) ⟨hl, h, rfl, 0, Nat.zero_le _, rfl⟩]
    simp only [obind_some, beq8.L0.add, beq8.L0.F, Int.toNat_zero, List.drop_zero]
    by_cases hx : a = b
    · rw [if_pos hx, dec_true hx]; rfl
    · rw [if_neg hx, dec_false hx]; rfl
  · rw [ine_true (by omega), dec_false (fun x => h (by rw [x]))]; rfl

theorem beq8.inj : ∀ d d', beq8.st d = beq8.st d' → d = d' := fun (s1, s2) (s1', s2') hEq => by
  have e0 : s1 = s1' := d_inj (t := (.slice (.int .u8))) (congrArg (fun s : List AVal × List Ent => (s.1.getD 0 .undef)) hEq)
  have e1 : s2 = s2' := d_inj (t := (.slice (.int .u8))) (congrArg (fun s : List AVal × List Ent => (s.1.getD 1 .undef)) hEq)
  rw [e0, e1]
noncomputable def beq8.E : Entry := Entry.of [some (.slice (.int .u8)), some (.slice (.int .u8))] beq8.st beq8.Pre (fun d => beq8.add d (beq8.F d)) beq8.out
noncomputable def beq8.call : beq8.D → Option beq8.X := fun d => beq8.E.run (beq8.st d).1 (beq8.st d).2
theorem beq8.run {d : beq8.D} (h : beq8.Pre d) : beq8.call d = some (beq8.add d (beq8.F d)) := Entry.of_run beq8.inj h
theorem beq8.does : Does Tryz.prog 58 beq8.E := Does.of (by kernel_rfl) (show Sound _ beq8.G from Sound.nil _) (by kernel_rfl) (by kernel_rfl) (by kernel_rfl) (LOk.fn 1 (by kernel_rfl) (And.intro (LDo.of (by kernel_rfl) beq8.L0.ok) trivial)) beq8.ok

/-! ### slices.Equal[[]corsned/api.Point,corsned/api.Point] -/
abbrev peq.L0.D := (List Int) × (List Int) × Int × Int
def peq.L0.st : peq.L0.D → AS := fun (s1_2, s2_2, t12, t13) => ⟨([.d (.slice (.int .u64)) s1_2, .d (.slice (.int .u64)) s2_2] ++ undN 10 ([.d (.int .i64) t12, .d (.int .i64) t13] ++ undN 12 [])), [], (List.replicate 26 [])⟩
abbrev peq.L0.Y0 := Unit
abbrev peq.L0.X0 := Unit
def peq.L0.ex0 : peq.L0.X0 → Exit × AS := fun x => (.ret, ⟨(undN 4 ([.d .bool false] ++ undN 21 [])), [], (List.replicate 26 [])⟩)
abbrev peq.L0.Y1 := Unit
abbrev peq.L0.X1 := Unit
def peq.L0.ex1 : peq.L0.X1 → Exit × AS := fun x => (.exit 0, ⟨(undN 26 []), [], (List.replicate 26 [])⟩)
abbrev peq.L0.X := (peq.L0.X0) ⊕ (peq.L0.X1)
abbrev peq.L0.Y := (peq.L0.Y0) ⊕ (peq.L0.Y1)
def peq.L0.out : peq.L0.X → Out (Exit × AS) := fun x => .br x.isLeft (.get x.getLeft? fun a => .ok (peq.L0.ex0 a)) (.get x.getRight? fun b => .ok (peq.L0.ex1 b))
def peq.L0.add : peq.L0.D → peq.L0.Y → peq.L0.X := fun (s1_2, s2_2, t12, t13) y => match y with | .inl y => .inl y | .inr z => .inr (z)
abbrev peq.D := (List Int) × (List Int)
def peq.st : peq.D → List AVal × List Ent := fun (s1, s2) => ([.d (.slice (.int .u64)) s1, .d (.slice (.int .u64)) s2], [])
abbrev peq.Y := Bool
abbrev peq.X := Bool
def peq.out : peq.X → GRes := fun x => ⟨.d .bool x, [], []⟩
def peq.add : peq.D → peq.Y → peq.X := fun (s1, s2) y => y


def peq.L0.Pre : peq.L0.D → Prop := fun (a, b, m, i) => a.length ≤ 1000000000 ∧ a.length = b.length ∧ m = a.length ∧ ∃ k : Nat, k ≤ a.length ∧ i = k
def peq.L0.F : peq.L0.D → peq.L0.Y := fun (a, b, m, i) => if a.drop i.toNat = b.drop i.toNat then .inr () else .inl ()
def peq.Pre : peq.D → Prop := fun (a, b) => a.length ≤ 1000000000
def peq.F : peq.D → peq.Y := fun (a, b) => decide (a = b)

noncomputable def peq.G : Gam := gnil
noncomputable def peq.L0.E : LEntry := LEntry.of peq.L0.st peq.L0.Pre (fun d => peq.L0.add d (peq.L0.F d)) peq.L0.out
noncomputable def peq.L0.call : peq.L0.D → Option peq.L0.X := fun d => peq.L0.E.run (peq.L0.st d)
noncomputable def peq.an : Ann := {
  objs := [],
  loops := fun r => bif Nat.beq r 4 then { keep := [0, 1, 12, 13], sites := [], frz := [], data := [], owns := [] } else { keep := [], sites := [], frz := [], data := [], owns := [] },
  outs := fun r b => bif Nat.beq r 4 then (bif b then { keep := [4], sites := [], frz := [], data := [], owns := [] } else { keep := [], sites := [], frz := [], data := [], owns := [] }) else { keep := [], sites := [], frz := [], data := [], owns := [] },
  sums := fun r => bif Nat.beq r 4 then some peq.L0.E else none,
  owns := [],
  trim := [],
  res := [] }
theorem peq.L0.inj : ∀ d d', peq.L0.st d = peq.L0.st d' → d = d' := fun (s1_2, s2_2, t12, t13) (s1_2', s2_2', t12', t13') hEq => by
  have e0 : s1_2 = s1_2' := d_inj (t := (.slice (.int .u64))) (congrArg (fun s : AS => (s.slot 0)) hEq)
  have e1 : s2_2 = s2_2' := d_inj (t := (.slice (.int .u64))) (congrArg (fun s : AS => (s.slot 1)) hEq)
  have e2 : t12 = t12' := d_inj (t := (.int .i64)) (congrArg (fun s : AS => (s.slot 12)) hEq)
  have e3 : t13 = t13' := d_inj (t := (.int .i64)) (congrArg (fun s : AS => (s.slot 13)) hEq)
  rw [e0, e1, e2, e3]
theorem peq.L0.run {d : peq.L0.D} (h : peq.L0.Pre d) : peq.L0.call d = some (peq.L0.add d (peq.L0.F d)) := LEntry.of_run peq.L0.inj h
theorem peq.L0.byRounds (μ : peq.L0.D → Nat) (h : ∀ d, peq.L0.Pre d → (∃ d', peq.L0.Pre d' ∧ μ d' < μ d ∧ peq.L0.add d' (peq.L0.F d') = peq.L0.add d (peq.L0.F d) ∧ ∀ {R : Type} (kn : AS → Option R) (kx : Exit → AS → Option R), lround Tryz.prog peq.G peq.an 0 Tryz.f68 0 (peq.L0.st d) kn kx = kn (peq.L0.st d')) ∨ (∃ r, (peq.L0.out (peq.L0.add d (peq.L0.F d))).eval = some r ∧ ∀ {R : Type} (kn : AS → Option R) (kx : Exit → AS → Option R), lround Tryz.prog peq.G peq.an 0 Tryz.f68 0 (peq.L0.st d) kn kx = kx r.1 r.2)) : ∀ d, peq.L0.Pre d → ∃ n, lrun Tryz.prog peq.G peq.an 0 Tryz.f68 0 n (peq.L0.st d) (fun e s => some (e, s)) = (peq.L0.out (peq.L0.add d (peq.L0.F d))).eval := lrun_of (F := fun d => peq.L0.add d (peq.L0.F d)) (out := peq.L0.out) μ h
theorem peq.L0.step {R : Type} (s1_2 : (List Int)) (s2_2 : (List Int)) (t12 : Int) (t13 : Int) (kn : AS → Option R) (kx : Exit → AS → Option R) : lround Tryz.prog peq.G peq.an 0 Tryz.f68 0 (peq.L0.st (s1_2, s2_2, t12, t13)) kn kx =
  sel ((ilt t13 t12)) (
   sel (inb t13 (((List.length s1_2) : Nat) : Int)) (
   sel (inb t13 (((List.length s2_2) : Nat) : Int)) (
   sel ((ine (nth (.int .u64) s1_2 (Int.toNat t13)) (nth (.int .u64) s2_2 (Int.toNat t13)))) (
    kx (peq.L0.ex0 ()).1 (peq.L0.ex0 ()).2) (
    kn (peq.L0.st (s1_2, s2_2, t12, (iadd .i64 t13 (1 : Int)))))) none) none) (
   kx (peq.L0.ex1 ()).1 (peq.L0.ex1 ()).2) := by kernel_rfl
theorem peq.eq {R : Type} (s1 : (List Int)) (s2 : (List Int)) (k : GRes → Option R) : arun Tryz.prog peq.G peq.an 0 Tryz.f68 (peq.st (s1, s2)).1 (peq.st (s1, s2)).2 k =
  sel ((ine (((List.length s1) : Nat) : Int) (((List.length s2) : Nat) : Int))) (
   k (peq.out false)) (
   obind (peq.L0.call (s1, s2, (((List.length s1) : Nat) : Int), (0 : Int))) fun x1 =>
   sel (x1.isLeft) (
    obind (x1.getLeft?) fun a2 =>
    k (peq.out false)) (
    obind (x1.getRight?) fun b3 =>
    k (peq.out true))) := by kernel_rfl


theorem peq.L0.ok : ∀ d, peq.L0.Pre d → ∃ n, lrun Tryz.prog peq.G peq.an 0 Tryz.f68 0 n (peq.L0.st d) (fun e s => some (e, s)) = (peq.L0.out (peq.L0.add d (peq.L0.F d))).eval := by
  refine peq.L0.byRounds (fun (a, b, m, i) => a.length - i.toNat) ?_
  rintro ⟨a, b, m, i⟩ ⟨hl, hab, rfl, k, hk, rfl⟩
  have hl : a.length ≤ 1000000000 := hl
  have hab : a.length = b.length := hab
  have hk : k ≤ a.length := hk
  by_cases h : k < a.length
  · have h2 : k < b.length := by omega
    have n1 : nth (.int .u64) a k = a[k] := nth_lt (t := (.int .u64)) h
    have n2 : nth (.int .u64) b k = b[k] := nth_lt (t := (.int .u64)) h2
    have hd : (a.drop k = b.drop k) = (a[k] = b[k] ∧ a.drop (k + 1) = b.drop (k + 1)) := by rw [List.drop_eq_getElem_cons h, List.drop_eq_getElem_cons h2, List.cons.injEq]
    have step : ∀ {R : Type} (kn : AS → Option R) (kx : Exit → AS → Option R), lround Tryz.prog peq.G peq.an 0 Tryz.f68 0 (peq.L0.st (a, b, (a.length : Int), (k : Int))) kn kx = if a[k] = b[k] then kn (peq.L0.st (a, b, (a.length : Int), ((k + 1 : Nat) : Int))) else kx (peq.L0.ex0 ()).1 (peq.L0.ex0 ()).2 := by
      intro R kn kx
      rw [peq.L0.step, ilt_true (by omega), inb_true (by omega) (by omega), inb_true (by omega) (by omega), Int.toNat_natCast, n1, n2, N.aNL (by omega)]
      simp only [sel_true]
      by_cases hx : a[k] = b[k]
      · rw [ine_false hx, if_pos hx]; rfl
      · rw [ine_true hx, if_neg hx]; rfl
    by_cases hx : a[k] = b[k]
    · left
      refine ⟨(a, b, (a.length : Int), ((k + 1 : Nat) : Int)), ⟨hl, hab, rfl, k + 1, by omega, rfl⟩, by simp only [Int.toNat_natCast]; omega, ?_, fun kn kx => ?_⟩
      · simp only [peq.L0.add, peq.L0.F, Int.toNat_natCast, hd, hx, true_and]
      · rw [step, if_pos hx]
    · right
      refine ⟨peq.L0.ex0 (), ?_, fun kn kx => ?_⟩
      · simp only [peq.L0.add, peq.L0.F, Int.toNat_natCast, hd, hx, false_and, if_false]
        rfl
      · rw [step, if_neg hx]
  · right
    obtain rfl : k = a.length := by omega
    refine ⟨peq.L0.ex1 (), ?_, fun kn kx => ?_⟩
    · simp only [peq.L0.add, peq.L0.F, Int.toNat_natCast, List.drop_length]
      rw [hab, List.drop_length, if_pos rfl]
      rfl
    · rw [peq.L0.step, ilt_false (by omega), sel_false]
theorem peq.ok : ∀ d, peq.Pre d → arun Tryz.prog peq.G peq.an 0 Tryz.f68 (peq.st d).1 (peq.st d).2 some = some (peq.out (peq.add d (peq.F d))) := by
  rintro ⟨a, b⟩ hl
  have hl : a.length ≤ 1000000000 := hl
  rw [peq.eq]
  simp only [peq.add, peq.F]
  by_cases h : a.length = b.length
  · rw [ine_false (by omega), sel_false, peq.L0.run (d := (a, b, (a.length : Int), 0)) ⟨hl, h, rfl, 0, Nat.zero_le _, rfl⟩]
    simp only [obind_some, peq.L0.add, peq.L0.F, Int.toNat_zero, List.drop_zero]
    by_cases hx : a = b
    · rw [if_pos hx, dec_true hx]; rfl
    · rw [if_neg hx, dec_false hx]; rfl
  · rw [ine_true (by omega), dec_false (fun x => h (by rw [x]))]; rfl

theorem peq.inj : ∀ d d', peq.st d = peq.st d' → d = d' := fun (s1, s2) (s1', s2') hEq => by
  have e0 : s1 = s1' := d_inj (t := (.slice (.int .u64))) (congrArg (fun s : List AVal × List Ent => (s.1.getD 0 .undef)) hEq)
  have e1 : s2 = s2' := d_inj (t := (.slice (.int .u64))) (congrArg (fun s : List AVal × List Ent => (s.1.getD 1 .undef)) hEq)
  rw [e0, e1]
noncomputable def peq.E : Entry := Entry.of [some (.slice (.int .u64)), some (.slice (.int .u64))] peq.st peq.Pre (fun d => peq.add d (peq.F d)) peq.out
noncomputable def peq.call : peq.D → Option peq.X := fun d => peq.E.run (peq.st d).1 (peq.st d).2
theorem peq.run {d : peq.D} (h : peq.Pre d) : peq.call d = some (peq.add d (peq.F d)) := Entry.of_run peq.inj h
theorem peq.does : Does Tryz.prog 68 peq.E := Does.of (by kernel_rfl) (show Sound _ peq.G from Sound.nil _) (by kernel_rfl) (by kernel_rfl) (by kernel_rfl) (LOk.fn 1 (by kernel_rfl) (And.intro (LDo.of (by kernel_rfl) peq.L0.ok) trivial)) peq.ok

/-! ### corsned/lock.Same$1 -/
abbrev lsame1.D := ((List Int) × (Int × (Int × (Int × Unit)))) × ((List Int) × (Int × (Int × (Int × Unit))))
def lsame1.st : lsame1.D → List AVal × List Ent := fun (x, yv) => ([.d (.pair (.slice (.int .u64)) (.pair (.int .i64) (.pair (.int .i64) (.pair (.int .u64) .unit)))) x, .d (.pair (.slice (.int .u64)) (.pair (.int .i64) (.pair (.int .i64) (.pair (.int .u64) .unit)))) yv], [])
abbrev lsame1.Y := Bool
abbrev lsame1.X := Bool
def lsame1.out : lsame1.X → GRes := fun x => ⟨.d .bool x, [], []⟩
def lsame1.add : lsame1.D → lsame1.Y → lsame1.X := fun (x, yv) y => y


def lsame1.Pre : lsame1.D → Prop := fun (x, z) => x.1.length ≤ 1000000000
def lsame1.F : lsame1.D → lsame1.Y := fun (x, z) => decide (x = z)

noncomputable def lsame1.G : Gam := gcons 68 anyArgs peq.E (gnil)
noncomputable def lsame1.an : Ann := {
  objs := [],
  loops := fun r => { keep := [], sites := [], frz := [], data := [], owns := [] },
  outs := fun r b => { keep := [], sites := [], frz := [], data := [], owns := [] },
  sums := fun r => none,
  owns := [],
  trim := [],
  res := [] }
theorem lsame1.eq {R : Type} (x : ((List Int) × (Int × (Int × (Int × Unit))))) (yv : ((List Int) × (Int × (Int × (Int × Unit))))) (k : GRes → Option R) : arun Tryz.prog lsame1.G lsame1.an 0 Tryz.f67 (lsame1.st (x, yv)).1 (lsame1.st (x, yv)).2 k =
  obind (peq.call (x.1, yv.1)) fun x1 =>
  sel (x1) (
   sel ((ieq x.2.1 yv.2.1)) (
    sel ((ieq x.2.2.1 yv.2.2.1)) (
     k (lsame1.out (ieq x.2.2.2.1 yv.2.2.2.1))) (
     k (lsame1.out false))) (
    k (lsame1.out false))) (
   k (lsame1.out false)) := by kernel_rfl


theorem lsame1.ok : ∀ d, lsame1.Pre d → arun Tryz.prog lsame1.G lsame1.an 0 Tryz.f67 (lsame1.st d).1 (lsame1.st d).2 some = some (lsame1.out (lsame1.add d (lsame1.F d))) := by
  rintro ⟨⟨k1, a1, d1, s1, u1⟩, ⟨k2, a2, d2, s2, u2⟩⟩ h
  have h : k1.length ≤ 1000000000 := h
  rw [lsame1.eq, peq.run (d := (k1, k2)) h]
  simp only [obind_some, peq.add, peq.F, lsame1.add, lsame1.F]
  by_cases e1 : k1 = k2
  · by_cases e2 : a1 = a2
    · by_cases e3 : d1 = d2
      · by_cases e4 : s1 = s2
        · rw [dec_true e1, ieq_true e2, ieq_true e3, ieq_true e4, dec_true (by rw [e1, e2, e3, e4])]; rfl
        · rw [dec_true e1, ieq_true e2, ieq_true e3, ieq_false e4, dec_false (by rintro ⟨⟩; exact e4 rfl)]; rfl
      · rw [dec_true e1, ieq_true e2, ieq_false e3, dec_false (by rintro ⟨⟩; exact e3 rfl)]; rfl
    · rw [dec_true e1, ieq_false e2, dec_false (by rintro ⟨⟩; exact e2 rfl)]; rfl
  · rw [dec_false e1, dec_false (by rintro ⟨⟩; exact e1 rfl)]; rfl

theorem lsame1.inj : ∀ d d', lsame1.st d = lsame1.st d' → d = d' := fun (x, yv) (x', yv') hEq => by
  have e0 : x = x' := d_inj (t := (.pair (.slice (.int .u64)) (.pair (.int .i64) (.pair (.int .i64) (.pair (.int .u64) .unit))))) (congrArg (fun s : List AVal × List Ent => (s.1.getD 0 .undef)) hEq)
  have e1 : yv = yv' := d_inj (t := (.pair (.slice (.int .u64)) (.pair (.int .i64) (.pair (.int .i64) (.pair (.int .u64) .unit))))) (congrArg (fun s : List AVal × List Ent => (s.1.getD 1 .undef)) hEq)
  rw [e0, e1]
noncomputable def lsame1.E : Entry := Entry.of [some (.pair (.slice (.int .u64)) (.pair (.int .i64) (.pair (.int .i64) (.pair (.int .u64) .unit)))), some (.pair (.slice (.int .u64)) (.pair (.int .i64) (.pair (.int .i64) (.pair (.int .u64) .unit))))] lsame1.st lsame1.Pre (fun d => lsame1.add d (lsame1.F d)) lsame1.out
noncomputable def lsame1.call : lsame1.D → Option lsame1.X := fun d => lsame1.E.run (lsame1.st d).1 (lsame1.st d).2
theorem lsame1.run {d : lsame1.D} (h : lsame1.Pre d) : lsame1.call d = some (lsame1.add d (lsame1.F d)) := Entry.of_run lsame1.inj h
theorem lsame1.does : Does Tryz.prog 67 lsame1.E := Does.of (by kernel_rfl) (show Sound _ lsame1.G from Sound.cons peq.does (Sound.nil _)) (by kernel_rfl) (by kernel_rfl) (by kernel_rfl) (LOk.fn 0 (by kernel_rfl) trivial) lsame1.ok


def ShortK (l : Lk) : Prop := l.1.length ≤ 1000000000 ∧ ∀ b ∈ l.1, b.1.length ≤ 1000000000

/-! ### slices.EqualFunc[[]corsned/api.Branch,[]corsned/api.Branch,corsned/api.Branch,corsned/api.Branch] -/
abbrev breq.L0.D := (List ((List Int) × (Int × (Int × (Int × Unit))))) × (List ((List Int) × (Int × (Int × (Int × Unit))))) × Int × Int
def breq.L0.st : breq.L0.D → AS := fun (s2_2, t15, t16, t17) => ⟨([.undef, .d (.slice (.pair (.slice (.int .u64)) (.pair (.int .i64) (.pair (.int .i64) (.pair (.int .u64) .unit))))) s2_2, .fn 67 (.nil)] ++ undN 12 ([.d (.slice (.pair (.slice (.int .u64)) (.pair (.int .i64) (.pair (.int .i64) (.pair (.int .u64) .unit))))) t15, .d (.int .i64) t16, .d (.int .i64) t17] ++ undN 14 [])), [], (List.replicate 32 [])⟩
abbrev breq.L0.Y0 := Unit
abbrev breq.L0.X0 := Unit
def breq.L0.ex0 : breq.L0.X0 → Exit × AS := fun x => (.ret, ⟨(undN 6 ([.d .bool false] ++ undN 25 [])), [], (List.replicate 32 [])⟩)
abbrev breq.L0.Y1 := Unit
abbrev breq.L0.X1 := Unit
def breq.L0.ex1 : breq.L0.X1 → Exit × AS := fun x => (.exit 0, ⟨(undN 32 []), [], (List.replicate 32 [])⟩)
abbrev breq.L0.X := (breq.L0.X0) ⊕ (breq.L0.X1)
abbrev breq.L0.Y := (breq.L0.Y0) ⊕ (breq.L0.Y1)
def breq.L0.out : breq.L0.X → Out (Exit × AS) := fun x => .br x.isLeft (.get x.getLeft? fun a => .ok (breq.L0.ex0 a)) (.get x.getRight? fun b => .ok (breq.L0.ex1 b))
def breq.L0.add : breq.L0.D → breq.L0.Y → breq.L0.X := fun (s2_2, t15, t16, t17) y => match y with | .inl y => .inl y | .inr z => .inr (z)
abbrev breq.D := (List ((List Int) × (Int × (Int × (Int × Unit))))) × (List ((List Int) × (Int × (Int × (Int × Unit)))))
def breq.st : breq.D → List AVal × List Ent := fun (s1, s2) => ([.d (.slice (.pair (.slice (.int .u64)) (.pair (.int .i64) (.pair (.int .i64) (.pair (.int .u64) .unit))))) s1, .d (.slice (.pair (.slice (.int .u64)) (.pair (.int .i64) (.pair (.int .i64) (.pair (.int .u64) .unit))))) s2, .fn 67 (.nil)], [])
abbrev breq.Y := Bool
abbrev breq.X := Bool
def breq.out : breq.X → GRes := fun x => ⟨.d .bool x, [], []⟩
def breq.add : breq.D → breq.Y → breq.X := fun (s1, s2) y => y


def breq.L0.Pre : breq.L0.D → Prop := fun (b, a, m, i) => (a.length ≤ 1000000000 ∧ ∀ x ∈ a, x.1.length ≤ 1000000000) ∧ a.length = b.length ∧ m = a.length ∧ ∃ k : Nat, k ≤ a.length ∧ i = k
def breq.L0.F : breq.L0.D → breq.L0.Y := fun (b, a, m, i) => if a.drop i.toNat = b.drop i.toNat then .inr () else .inl ()
def breq.Pre : breq.D → Prop := fun (a, b) => a.length ≤ 1000000000 ∧ ∀ x ∈ a, x.1.length ≤ 1000000000
def breq.F : breq.D → breq.Y := fun (a, b) => decide (a = b)

noncomputable def breq.G : Gam := gcons 67 anyArgs lsame1.E (gnil)
noncomputable def breq.L0.E : LEntry := LEntry.of breq.L0.st breq.L0.Pre (fun d => breq.L0.add d (breq.L0.F d)) breq.L0.out
noncomputable def breq.L0.call : breq.L0.D → Option breq.L0.X := fun d => breq.L0.E.run (breq.L0.st d)
noncomputable def breq.an : Ann := {
  objs := [],
  loops := fun r => bif Nat.beq r 4 then { keep := [1, 2, 15, 16, 17], sites := [], frz := [], data := [], owns := [] } else { keep := [], sites := [], frz := [], data := [], owns := [] },
  outs := fun r b => bif Nat.beq r 4 then (bif b then { keep := [6], sites := [], frz := [], data := [], owns := [] } else { keep := [], sites := [], frz := [], data := [], owns := [] }) else { keep := [], sites := [], frz := [], data := [], owns := [] },
  sums := fun r => bif Nat.beq r 4 then some breq.L0.E else none,
  owns := [],
  trim := [],
  res := [] }
theorem breq.L0.inj : ∀ d d', breq.L0.st d = breq.L0.st d' → d = d' := fun (s2_2, t15, t16, t17) (s2_2', t15', t16', t17') hEq => by
  have e0 : s2_2 = s2_2' := d_inj (t := (.slice (.pair (.slice (.int .u64)) (.pair (.int .i64) (.pair (.int .i64) (.pair (.int .u64) .unit)))))) (congrArg (fun s : AS => (s.slot 1)) hEq)
  have e1 : t15 = t15' := d_inj (t := (.slice (.pair (.slice (.int .u64)) (.pair (.int .i64) (.pair (.int .i64) (.pair (.int .u64) .unit)))))) (congrArg (fun s : AS => (s.slot 15)) hEq)
  have e2 : t16 = t16' := d_inj (t := (.int .i64)) (congrArg (fun s : AS => (s.slot 16)) hEq)
  have e3 : t17 = t17' := d_inj (t := (.int .i64)) (congrArg (fun s : AS => (s.slot 17)) hEq)
  rw [e0, e1, e2, e3]
theorem breq.L0.run {d : breq.L0.D} (h : breq.L0.Pre d) : breq.L0.call d = some (breq.L0.add d (breq.L0.F d)) := LEntry.of_run breq.L0.inj h
theorem breq.L0.byRounds (μ : breq.L0.D → Nat) (h : ∀ d, breq.L0.Pre d → (∃ d', breq.L0.Pre d' ∧ μ d' < μ d ∧ breq.L0.add d' (breq.L0.F d') = breq.L0.add d (breq.L0.F d) ∧ ∀ {R : Type} (kn : AS → Option R) (kx : Exit → AS → Option R), lround Tryz.prog breq.G breq.an 0 Tryz.f66 0 (breq.L0.st d) kn kx = kn (breq.L0.st d')) ∨ (∃ r, (breq.L0.out (breq.L0.add d (breq.L0.F d))).eval = some r ∧ ∀ {R : Type} (kn : AS → Option R) (kx : Exit → AS → Option R), lround Tryz.prog breq.G breq.an 0 Tryz.f66 0 (breq.L0.st d) kn kx = kx r.1 r.2)) : ∀ d, breq.L0.Pre d → ∃ n, lrun Tryz.prog breq.G breq.an 0 Tryz.f66 0 n (breq.L0.st d) (fun e s => some (e, s)) = (breq.L0.out (breq.L0.add d (breq.L0.F d))).eval := lrun_of (F := fun d => breq.L0.add d (breq.L0.F d)) (out := breq.L0.out) μ h
theorem breq.L0.step {R : Type} (s2_2 : (List ((List Int) × (Int × (Int × (Int × Unit)))))) (t15 : (List ((List Int) × (Int × (Int × (Int × Unit)))))) (t16 : Int) (t17 : Int) (kn : AS → Option R) (kx : Exit → AS → Option R) : lround Tryz.prog breq.G breq.an 0 Tryz.f66 0 (breq.L0.st (s2_2, t15, t16, t17)) kn kx =
  sel ((ilt t17 t16)) (
   sel (inb t17 (((List.length t15) : Nat) : Int)) (
   sel (inb t17 (((List.length s2_2) : Nat) : Int)) (
   obind (lsame1.call ((nth (.pair (.slice (.int .u64)) (.pair (.int .i64) (.pair (.int .i64) (.pair (.int .u64) .unit)))) t15 (Int.toNat t17)), (nth (.pair (.slice (.int .u64)) (.pair (.int .i64) (.pair (.int .i64) (.pair (.int .u64) .unit)))) s2_2 (Int.toNat t17)))) fun x1 =>
   sel ((!x1)) (
    kx (breq.L0.ex0 ()).1 (breq.L0.ex0 ()).2) (
    kn (breq.L0.st (s2_2, t15, t16, (iadd .i64 t17 (1 : Int)))))) none) none) (
   kx (breq.L0.ex1 ()).1 (breq.L0.ex1 ()).2) := by kernel_rfl
theorem breq.eq {R : Type} (s1 : (List ((List Int) × (Int × (Int × (Int × Unit)))))) (s2 : (List ((List Int) × (Int × (Int × (Int × Unit)))))) (k : GRes → Option R) : arun Tryz.prog breq.G breq.an 0 Tryz.f66 (breq.st (s1, s2)).1 (breq.st (s1, s2)).2 k =
  sel ((ine (((List.length s1) : Nat) : Int) (((List.length s2) : Nat) : Int))) (
   k (breq.out false)) (
   obind (breq.L0.call (s2, s1, (((List.length s1) : Nat) : Int), (0 : Int))) fun x2 =>
   sel (x2.isLeft) (
    obind (x2.getLeft?) fun a3 =>
    k (breq.out false)) (
    obind (x2.getRight?) fun b4 =>
    k (breq.out true))) := by kernel_rfl


theorem breq.L0.ok : ∀ d, breq.L0.Pre d → ∃ n, lrun Tryz.prog breq.G breq.an 0 Tryz.f66 0 n (breq.L0.st d) (fun e s => some (e, s)) = (breq.L0.out (breq.L0.add d (breq.L0.F d))).eval := by
  refine breq.L0.byRounds (fun (b, a, m, i) => a.length - i.toNat) ?_
  rintro ⟨b, a, m, i⟩ ⟨⟨hl, he⟩, hab, rfl, k, hk, rfl⟩
  have hl : a.length ≤ 1000000000 := hl
  have hab : a.length = b.length := hab
  have hk : k ≤ a.length := hk
  by_cases h : k < a.length
  · have h2 : k < b.length := by omega
    have n1 : nth (.pair (.slice (.int .u64)) (.pair (.int .i64) (.pair (.int .i64) (.pair (.int .u64) .unit)))) a k = a[k] := nth_lt (t := (.pair (.slice (.int .u64)) (.pair (.int .i64) (.pair (.int .i64) (.pair (.int .u64) .unit))))) h
    have n2 : nth (.pair (.slice (.int .u64)) (.pair (.int .i64) (.pair (.int .i64) (.pair (.int .u64) .unit)))) b k = b[k] := nth_lt (t := (.pair (.slice (.int .u64)) (.pair (.int .i64) (.pair (.int .i64) (.pair (.int .u64) .unit))))) h2
    have hd : (a.drop k = b.drop k) = (a[k] = b[k] ∧ a.drop (k + 1) = b.drop (k + 1)) := by rw [List.drop_eq_getElem_cons h, List.drop_eq_getElem_cons h2, List.cons.injEq]
    have step : ∀ {R : Type} (kn : AS → Option R) (kx : Exit → AS → Option R), lround Tryz.prog breq.G breq.an 0 Tryz.f66 0 (breq.L0.st (b, a, (a.length : Int), (k : Int))) kn kx = if a[k] = b[k] then kn (breq.L0.st (b, a, (a.length : Int), ((k + 1 : Nat) : Int))) else kx (breq.L0.ex0 ()).1 (breq.L0.ex0 ()).2 := by
      intro R kn kx
      rw [breq.L0.step, ilt_true (by omega), inb_true (by omega) (by omega), inb_true (by omega) (by omega), Int.toNat_natCast, n1, n2, N.aNL (by omega), lsame1.run (d := (a[k], b[k])) (he _ (List.getElem_mem h))]
      simp only [sel_true, obind_some, lsame1.add, lsame1.F]
      by_cases hx : a[k] = b[k]
      · rw [dec_true hx, if_pos hx]; rfl
      · rw [dec_false hx, if_neg hx]; rfl
    by_cases hx : a[k] = b[k]
    · left
      refine ⟨(b, a, (a.length : Int), ((k + 1 : Nat) : Int)), ⟨⟨hl, he⟩, hab, rfl, k + 1, by omega, rfl⟩, by simp only [Int.toNat_natCast]; omega, ?_, fun kn kx => ?_⟩
      · simp only [breq.L0.add, breq.L0.F, Int.toNat_natCast, hd, hx, true_and]
      · rw [step, if_pos hx]
    · right
      refine ⟨breq.L0.ex0 (), ?_, fun kn kx => ?_⟩
      · simp only [breq.L0.add, breq.L0.F, Int.toNat_natCast, hd, hx, false_and, if_false]
        rfl
      · rw [step, if_neg hx]
  · right
    obtain rfl : k = a.length := by omega
    refine ⟨breq.L0.ex1 (), ?_, fun kn kx => ?_⟩
    · simp only [breq.L0.add, breq.L0.F, Int.toNat_natCast, List.drop_length]
      rw [hab, List.drop_length, if_pos rfl]
      rfl
    · rw [breq.L0.step, ilt_false (by omega), sel_false]
theorem breq.ok : ∀ d, breq.Pre d → arun Tryz.prog breq.G breq.an 0 Tryz.f66 (breq.st d).1 (breq.st d).2 some = some (breq.out (breq.add d (breq.F d))) := by
  rintro ⟨a, b⟩ hl
  have hl1 : a.length ≤ 1000000000 := hl.1
  rw [breq.eq]
  simp only [breq.add, breq.F]
  by_cases h : a.length = b.length
  · rw [ine_false (by omega), sel_false, breq.L0.run (d := (b, a, (a.length : Int), 0)) ⟨hl, h, rfl, 0, Nat.zero_le _, rfl⟩]
    simp only [obind_some, breq.L0.add, breq.L0.F, Int.toNat_zero, List.drop_zero]
    by_cases hx : a = b
    · rw [if_pos hx, dec_true hx]; rfl
    · rw [if_neg hx, dec_false hx]; rfl
  · rw [ine_true (by omega), dec_false (fun x => h (by rw [x]))]; rfl

theorem breq.inj : ∀ d d', breq.st d = breq.st d' → d = d' := fun (s1, s2) (s1', s2') hEq => by
  have e0 : s1 = s1' := d_inj (t := (.slice (.pair (.slice (.int .u64)) (.pair (.int .i64) (.pair (.int .i64) (.pair (.int .u64) .unit)))))) (congrArg (fun s : List AVal × List Ent => (s.1.getD 0 .undef)) hEq)
  have e1 : s2 = s2' := d_inj (t := (.slice (.pair (.slice (.int .u64)) (.pair (.int .i64) (.pair (.int .i64) (.pair (.int .u64) .unit)))))) (congrArg (fun s : List AVal × List Ent => (s.1.getD 1 .undef)) hEq)
  rw [e0, e1]
noncomputable def breq.E : Entry := Entry.of [some (.slice (.pair (.slice (.int .u64)) (.pair (.int .i64) (.pair (.int .i64) (.pair (.int .u64) .unit))))), some (.slice (.pair (.slice (.int .u64)) (.pair (.int .i64) (.pair (.int .i64) (.pair (.int .u64) .unit))))), none] breq.st breq.Pre (fun d => breq.add d (breq.F d)) breq.out
noncomputable def breq.call : breq.D → Option breq.X := fun d => breq.E.run (breq.st d).1 (breq.st d).2
theorem breq.run {d : breq.D} (h : breq.Pre d) : breq.call d = some (breq.add d (breq.F d)) := Entry.of_run breq.inj h
theorem breq.does : Does Tryz.prog 66 breq.E := Does.of (by kernel_rfl) (show Sound _ breq.G from Sound.cons lsame1.does (Sound.nil _)) (by kernel_rfl) (by kernel_rfl) (by kernel_rfl) (LOk.fn 1 (by kernel_rfl) (And.intro (LDo.of (by kernel_rfl) breq.L0.ok) trivial)) breq.ok

/-! ### corsned/lock.Same -/
abbrev lsame.D := ((List ((List Int) × (Int × (Int × (Int × Unit))))) × Unit) × ((List ((List Int) × (Int × (Int × (Int × Unit))))) × Unit)
def lsame.st : lsame.D → List AVal × List Ent := fun (a, b) => ([.d (.pair (.slice (.pair (.slice (.int .u64)) (.pair (.int .i64) (.pair (.int .i64) (.pair (.int .u64) .unit))))) .unit) a, .d (.pair (.slice (.pair (.slice (.int .u64)) (.pair (.int .i64) (.pair (.int .i64) (.pair (.int .u64) .unit))))) .unit) b], [])
abbrev lsame.Y := Bool
abbrev lsame.X := Bool
def lsame.out : lsame.X → GRes := fun x => ⟨.d .bool x, [], []⟩
def lsame.add : lsame.D → lsame.Y → lsame.X := fun (a, b) y => y


def lsame.Pre : lsame.D → Prop := fun (a, b) => ShortK a
def lsame.F : lsame.D → lsame.Y := fun (a, b) => decide (a.1 = b.1)

noncomputable def lsame.G : Gam := gcons 66 anyArgs breq.E (gnil)
noncomputable def lsame.an : Ann := {
  objs := [],
  loops := fun r => { keep := [], sites := [], frz := [], data := [], owns := [] },
  outs := fun r b => { keep := [], sites := [], frz := [], data := [], owns := [] },
  sums := fun r => none,
  owns := [],
  trim := [],
  res := [] }
theorem lsame.eq {R : Type} (a : ((List ((List Int) × (Int × (Int × (Int × Unit))))) × Unit)) (b : ((List ((List Int) × (Int × (Int × (Int × Unit))))) × Unit)) (k : GRes → Option R) : arun Tryz.prog lsame.G lsame.an 0 Tryz.f15 (lsame.st (a, b)).1 (lsame.st (a, b)).2 k =
  obind (breq.call (a.1, b.1)) fun x1 =>
  k (lsame.out x1) := by kernel_rfl


theorem lsame.ok : ∀ d, lsame.Pre d → arun Tryz.prog lsame.G lsame.an 0 Tryz.f15 (lsame.st d).1 (lsame.st d).2 some = some (lsame.out (lsame.add d (lsame.F d))) := by
  rintro ⟨a, b⟩ h
  rw [lsame.eq, breq.run (d := (a.1, b.1)) h]
  rfl

theorem lsame.inj : ∀ d d', lsame.st d = lsame.st d' → d = d' := fun (a, b) (a', b') hEq => by
  have e0 : a = a' := d_inj (t := (.pair (.slice (.pair (.slice (.int .u64)) (.pair (.int .i64) (.pair (.int .i64) (.pair (.int .u64) .unit))))) .unit)) (congrArg (fun s : List AVal × List Ent => (s.1.getD 0 .undef)) hEq)
  have e1 : b = b' := d_inj (t := (.pair (.slice (.pair (.slice (.int .u64)) (.pair (.int .i64) (.pair (.int .i64) (.pair (.int .u64) .unit))))) .unit)) (congrArg (fun s : List AVal × List Ent => (s.1.getD 1 .undef)) hEq)
  rw [e0, e1]
noncomputable def lsame.E : Entry := Entry.of [some (.pair (.slice (.pair (.slice (.int .u64)) (.pair (.int .i64) (.pair (.int .i64) (.pair (.int .u64) .unit))))) .unit), some (.pair (.slice (.pair (.slice (.int .u64)) (.pair (.int .i64) (.pair (.int .i64) (.pair (.int .u64) .unit))))) .unit)] lsame.st lsame.Pre (fun d => lsame.add d (lsame.F d)) lsame.out
noncomputable def lsame.call : lsame.D → Option lsame.X := fun d => lsame.E.run (lsame.st d).1 (lsame.st d).2
theorem lsame.run {d : lsame.D} (h : lsame.Pre d) : lsame.call d = some (lsame.add d (lsame.F d)) := Entry.of_run lsame.inj h
theorem lsame.does : Does Tryz.prog 15 lsame.E := Does.of (by kernel_rfl) (show Sound _ lsame.G from Sound.cons breq.does (Sound.nil _)) (by kernel_rfl) (by kernel_rfl) (by kernel_rfl) (LOk.fn 0 (by kernel_rfl) trivial) lsame.ok

end Go.Ab
namespace Go.Ab
open Go.Proofs
set_option maxRecDepth 100000
set_option linter.unusedVariables false
set_option linter.unusedSimpArgs false


/-- Numbers of eight bytes, one behind the other. -/
def keysR : Nat → Rdr → List Int × Rdr
  | 0, r => ([], r)
  | k + 1, r => ((u64R r).1 :: (keysR k (u64R r).2).1, (keysR k (u64R r).2).2)
/-- A branch of so many keys. -/
def bodyR (k : Nat) (r : Rdr) : Brn × Rdr :=
  (((keysR k r).1, (numR (keysR k r).2).1, (numR (numR (keysR k r).2).2).1, (u64R (numR (numR (keysR k r).2).2).2).1, ()), (u64R (numR (numR (keysR k r).2).2).2).2)
/-- The branches that are read; none is told when one has too many keys, or there is a fifth. -/
def brsC : Nat → Int → Rdr → List Brn
  | 0, _, _ => []
  | f + 1, n, r => if 0 < n then (if f = 0 ∨ 12 < (numR r).1 then [] else (bodyR (numR r).1.toNat (numR r).2).1 :: brsC f (n - 1) (bodyR (numR r).1.toNat (numR r).2).2) else []
def readC (b : List Int) : List Brn := brsC 5 (numR (b, false, ())).1 (numR (b, false, ())).2
theorem keysR_b : ∀ (k : Nat) (r : Rdr), RdrB r → KeysU (keysR k r).1 ∧ (keysR k r).1.length = k ∧ RdrB (keysR k r).2
  | 0, r, h => ⟨fun x hx => (by cases hx), rfl, h⟩
  | k + 1, r, h => by
    have e := u64R_u h
    have ih := keysR_b k _ e.2
    refine ⟨fun x hx => ?_, by rw [keysR, List.length_cons, ih.2.1], ih.2.2⟩
    rcases List.mem_cons.1 hx with rfl | hx
    · exact e.1
    · exact ih.1 x hx
theorem bodyR_b (k : Nat) (r : Rdr) (h : RdrB r) : BrU (bodyR k r).1 ∧ (bodyR k r).1.1.length = k ∧ RdrB (bodyR k r).2 := by
  have h1 := keysR_b k r h
  have h2 := numR_ok h1.2.2
  have h3 := numR_ok h2.2.2
  have h4 := u64R_u h3.2.2
  exact ⟨⟨h1.1, h4.1⟩, h1.2.1, h4.2⟩
theorem brsC_b : ∀ (f : Nat) (n : Int) (r : Rdr), RdrB r → (∀ b ∈ brsC f n r, BrU b) ∧ (brsC f n r).length ≤ f
  | 0, n, r, h => ⟨fun x hx => (by cases hx), Nat.le_refl _⟩
  | f + 1, n, r, h => by
    have h1 := numR_ok h
    have h2 := bodyR_b (numR r).1.toNat _ h1.2.2
    have ih := brsC_b f (n - 1) _ h2.2.2
    rw [brsC]
    split
    · split
      · exact ⟨fun x hx => (by cases hx), Nat.zero_le _⟩
      · refine ⟨fun x hx => ?_, by rw [List.length_cons]; omega⟩
        rcases List.mem_cons.1 hx with rfl | hx
        · exact h2.1
        · exact ih.1 x hx
    · exact ⟨fun x hx => (by cases hx), Nat.zero_le _⟩
theorem readC_u {b : List Int} (h : Bytes b) (hl : b.length ≤ 1000000000) : LkU (readC b, ()) ∧ (readC b).length ≤ 5 := by
  have e := brsC_b 5 (numR (b, false, ())).1 _ (numR_ok (rdr_of h hl (false, ()))).2.2
  exact ⟨e.1, e.2⟩
theorem keysR_law : ∀ (ks : List Int) (rest : List Int), KeysU ks → keysR ks.length (ks.flatMap be8 ++ rest, false, ()) = (ks, (rest, false, ()))
  | [], rest, _ => rfl
  | k :: ks, rest, h => by
    have e : u64R ((k :: ks).flatMap be8 ++ rest, false, ()) = (k, (ks.flatMap be8 ++ rest, false, ())) := by
      rw [List.flatMap_cons, List.append_assoc]
      exact u64R_be8 k (h k List.mem_cons_self) _
    have ih := keysR_law ks rest fun x hx => h x (List.mem_cons_of_mem _ hx)
    rw [List.length_cons, keysR, e, ih]
theorem bodyR_law (b : Brn) (hb : BrU b) (hk : BrK b) (rest : List Int) : bodyR b.1.length (b.1.flatMap be8 ++ (rowN b.2.1 ++ (rowN b.2.2.1 ++ (be8 b.2.2.2.1 ++ rest))), false, ()) = (b, (rest, false, ())) := by
  unfold bodyR
  rw [keysR_law _ _ hb.1]
  simp only []
  rw [numR_row _ hk.af, numR_row _ hk.dl, u64R_be8 _ hb.2]
theorem brW_rest (b : Brn) (rest : List Int) : brW b ++ rest = rowN b.1.length ++ (b.1.flatMap be8 ++ (rowN b.2.1 ++ (rowN b.2.2.1 ++ (be8 b.2.2.2.1 ++ rest)))) := by
  unfold brW
  simp only [List.append_assoc]
theorem brsC_law : ∀ (bs : List Brn) (f : Nat) (rest : List Int), (∀ b ∈ bs, BrU b) → (∀ b ∈ bs, BrK b) → bs.length + 1 ≤ f → brsC f bs.length (bs.flatMap brW ++ rest, false, ()) = bs
  | [], 0, rest, _, _, h => absurd h (by simp)
  | [], f + 1, rest, _, _, _ => by
    rw [brsC, if_neg (by show ¬ (0 : Int) < ((0 : Nat) : Int); omega)]
  | b :: bs, 0, rest, _, _, h => absurd h (by simp)
  | b :: bs, f + 1, rest, hu, hk, h => by
    have ub := hu b List.mem_cons_self
    have kb := hk b List.mem_cons_self
    have h : bs.length + 1 + 1 ≤ f + 1 := h
    have e : (b :: bs).flatMap brW ++ rest = rowN b.1.length ++ (b.1.flatMap be8 ++ (rowN b.2.1 ++ (rowN b.2.2.1 ++ (be8 b.2.2.2.1 ++ (bs.flatMap brW ++ rest))))) := by rw [List.flatMap_cons, List.append_assoc, brW_rest]
    have h12 := kb.len
    rw [brsC, if_pos (by rw [List.length_cons]; omega), e, numR_row _ (natI_len (by omega))]
    simp only [Int.toNat_natCast]
    rw [if_neg (by omega), bodyR_law b ub kb]
    simp only []
    rw [show ((b :: bs).length : Int) - 1 = (bs.length : Int) by rw [List.length_cons]; omega, brsC_law bs f rest (fun x hx => hu x (List.mem_cons_of_mem _ hx)) (fun x hx => hk x (List.mem_cons_of_mem _ hx)) (by omega)]
/-- What was laid is read, whatever is behind it. -/
theorem readC_law {l : Lk} (hu : LkU l) (hok : lkOk l = true) (rest : List Int) : readC (lkB l ++ rest) = l.1 := by
  have hk := lkOk_k hok
  unfold readC
  rw [lkB_eq hok, List.append_assoc, numR_row _ (natI_len (by omega))]
  exact brsC_law l.1 5 rest hu hk.1 (by omega)
def readL (b : List Int) : Lk × Bool := if lkOk (readC b, ()) = true ∧ lkB (readC b, ()) = b then ((readC b, ()), true) else (([], ()), false)
theorem readL_law {l : Lk} (hu : LkU l) (hok : lkOk l = true) : readL (lkB l) = (l, true) := by
  have e : readC (lkB l) = l.1 := by have e := readC_law hu hok []; rw [List.append_nil] at e; exact e
  unfold readL
  rw [e]
  have e2 : ((l.1, ()) : Lk) = l := rfl
  rw [e2, if_pos ⟨hok, rfl⟩]
theorem readL_is {b : List Int} (h : (readL b).2 = true) : ∃ l : Lk, lkOk l = true ∧ lkB l = b ∧ readL b = (l, true) ∧ l = (readC b, ()) := by
  unfold readL at h ⊢
  split at h
  · rename_i hc
    exact ⟨(readC b, ()), hc.1, hc.2, by rw [if_pos hc], rfl⟩
  · cases h
theorem readL_no {b : List Int} (h : (readL b).2 = false) : readL b = (([], ()), false) := by
  unfold readL at h ⊢
  split at h
  · cases h
  · rename_i hc
    rw [if_neg hc]
theorem len_ne {a b : List Int} (h : a.length ≠ b.length) : a ≠ b := fun e => h (by rw [e])
/-- With a byte less, or more, none is read. -/
theorem readL_other {l : Lk} (hu : LkU l) (hok : lkOk l = true) {b r1 r2 : List Int} (hb : Bytes b) (hl : b.length ≤ 1000000000) (h : lkB l ++ r1 = b ++ r2) (hne : (lkB l).length ≠ b.length) : readL b = (([], ()), false) := by
  cases hr : (readL b).2
  · exact readL_no hr
  · exfalso
    obtain ⟨x, hx, hxb, _, hxe⟩ := readL_is hr
    have hxu : LkU x := by rw [hxe]; exact (readC_u hb hl).1
    have e1 := readC_law hu hok r1
    have e2 := readC_law hxu hx r2
    rw [hxb, ← h, e1] at e2
    have e3 : l = x := Prod.ext e2 rfl
    rw [e3, hxb] at hne
    exact hne rfl

end Go.Ab
namespace Go.Ab
open Go.Proofs
set_option maxRecDepth 100000
set_option linter.unusedVariables false
set_option linter.unusedSimpArgs false

/-! ### corsned/lock.Read -/
abbrev lread.L0.D := (List Int) × Int × Int × Nat × ((List Int) × (Bool × Unit)) × (List ((List Int) × (Int × (Int × (Int × Unit)))))
def lread.L0.st : lread.L0.D → AS := fun (b_2, n, i, n5L, n11, n51) => ⟨([.d (.slice (.int .u8)) b_2, .undef, .ptr (.new 2 0) 0 [] 0, .undef, .ptr (.new 11 0) 0 [] 0, .ptr (.new 5 0) 0 [] 0, .d (.int .i64) n, .d (.int .i64) i] ++ undN 57 []), [], ([[], [], [.obj 0 false (.pr (.nils) (.d .unit ()))], [], [], [.obj 0 false (.pr (.sref (.new 51 0) 0 [] 0 0 n5L) (.d .unit ()))]] ++ nilN 5 ([[.obj 0 false (.d (.pair (.slice (.int .u8)) (.pair .bool .unit)) n11)]] ++ nilN 39 ([[.obj 0 false (.vec 85 (.pair (.slice (.int .u64)) (.pair (.int .i64) (.pair (.int .i64) (.pair (.int .u64) .unit)))) n51)]] ++ nilN 13 [])))⟩
abbrev lread.L0.Y0 := (List Int) × Nat × (List ((List Int) × (Int × (Int × (Int × Unit)))))  -- b, n5L, n51
abbrev lread.L0.X0 := (List Int) × Nat × (List ((List Int) × (Int × (Int × (Int × Unit)))))
def lread.L0.ex0 : lread.L0.X0 → Exit × AS := fun x => (.exit 0, ⟨([.d (.slice (.int .u8)) x.1, .undef, .ptr (.new 2 0) 0 [] 0, .undef, .undef, .ptr (.new 5 0) 0 [] 0] ++ undN 59 []), [], ([[], [], [.obj 0 false (.pr (.nils) (.d .unit ()))], [], [], [.obj 0 false (.pr (.sref (.new 51 0) 0 [] 0 0 x.2.1) (.d .unit ()))]] ++ nilN 45 ([[.obj 0 false (.vec 85 (.pair (.slice (.int .u64)) (.pair (.int .i64) (.pair (.int .i64) (.pair (.int .u64) .unit)))) x.2.2)]] ++ nilN 13 []))⟩)
abbrev lread.L0.X := lread.L0.X0
abbrev lread.L0.Y := lread.L0.Y0
def lread.L0.out : lread.L0.X → Out (Exit × AS) := fun x => .ok (lread.L0.ex0 x)
def lread.L0.add : lread.L0.D → lread.L0.Y → lread.L0.X := fun (b_2, n, i, n5L, n11, n51) y => y
abbrev lread.L1.D := (List Int) × Int × Int × Int × Int × Nat × Nat × (Int × (Int × (Int × Unit))) × ((List Int) × (Bool × Unit)) × (List Int) × (List ((List Int) × (Int × (Int × (Int × Unit)))))
def lread.L1.st : lread.L1.D → AS := fun (b_3, n_2, i_2, t27, t28, n5L_2, n8L, n8, n11_2, n35, n51_2) => ⟨([.d (.slice (.int .u8)) b_3, .undef, .ptr (.new 2 0) 0 [] 0, .undef, .ptr (.new 11 0) 0 [] 0, .ptr (.new 5 0) 0 [] 0, .d (.int .i64) n_2, .d (.int .i64) i_2, .ptr (.new 8 0) 0 [] 0] ++ undN 18 ([.d (.int .i64) t27, .d (.int .i64) t28] ++ undN 36 [])), [], ([[], [], [.obj 0 false (.pr (.nils) (.d .unit ()))], [], [], [.obj 0 false (.pr (.sref (.new 51 0) 0 [] 0 0 n5L_2) (.d .unit ()))], [], [], [.obj 0 false (.pr (.sref (.new 35 0) 0 [] 0 0 n8L) (.d (.pair (.int .i64) (.pair (.int .i64) (.pair (.int .u64) .unit))) n8))], [], [], [.obj 0 false (.d (.pair (.slice (.int .u8)) (.pair .bool .unit)) n11_2)]] ++ nilN 23 ([[.obj 0 false (.vec 58 (.int .u64) n35)]] ++ nilN 15 ([[.obj 0 false (.vec 85 (.pair (.slice (.int .u64)) (.pair (.int .i64) (.pair (.int .i64) (.pair (.int .u64) .unit)))) n51_2)]] ++ nilN 13 [])))⟩
abbrev lread.L1.Y0 := Nat × ((List Int) × (Bool × Unit)) × (List Int)  -- n8L, n11, n35
abbrev lread.L1.X0 := ((List Int) × Int × Int × Nat × (Int × (Int × (Int × Unit))) × (List ((List Int) × (Int × (Int × (Int × Unit)))))) × (Nat × ((List Int) × (Bool × Unit)) × (List Int))
def lread.L1.ex0 : lread.L1.X0 → Exit × AS := fun x => (.exit 2, ⟨([.d (.slice (.int .u8)) x.1.1, .undef, .ptr (.new 2 0) 0 [] 0, .undef, .ptr (.new 11 0) 0 [] 0, .ptr (.new 5 0) 0 [] 0, .d (.int .i64) x.1.2.1, .d (.int .i64) x.1.2.2.1, .ptr (.new 8 0) 0 [] 0] ++ undN 56 []), [], ([[], [], [.obj 0 false (.pr (.nils) (.d .unit ()))], [], [], [.obj 0 false (.pr (.sref (.new 51 0) 0 [] 0 0 x.1.2.2.2.1) (.d .unit ()))], [], [], [.obj 0 false (.pr (.sref (.new 35 0) 0 [] 0 0 x.2.1) (.d (.pair (.int .i64) (.pair (.int .i64) (.pair (.int .u64) .unit))) x.1.2.2.2.2.1))], [], [], [.obj 0 false (.d (.pair (.slice (.int .u8)) (.pair .bool .unit)) x.2.2.1)]] ++ nilN 23 ([[.obj 0 false (.vec 58 (.int .u64) x.2.2.2)]] ++ nilN 15 ([[.obj 0 false (.vec 85 (.pair (.slice (.int .u64)) (.pair (.int .i64) (.pair (.int .i64) (.pair (.int .u64) .unit)))) x.1.2.2.2.2.2)]] ++ nilN 13 [])))⟩)
abbrev lread.L1.X := lread.L1.X0
abbrev lread.L1.Y := lread.L1.Y0
def lread.L1.out : lread.L1.X → Out (Exit × AS) := fun x => .ok (lread.L1.ex0 x)
def lread.L1.add : lread.L1.D → lread.L1.Y → lread.L1.X := fun (b_3, n_2, i_2, t27, t28, n5L_2, n8L, n8, n11_2, n35, n51_2) y => ((b_3, n_2, i_2, n5L_2, n8, n51_2), y)
abbrev lread.D := (List Int)
def lread.st : lread.D → List AVal × List Ent := fun b => ([.d (.slice (.int .u8)) b], [])
abbrev lread.Y := ((List ((List Int) × (Int × (Int × (Int × Unit))))) × Unit) × Bool
abbrev lread.X := ((List ((List Int) × (Int × (Int × (Int × Unit))))) × Unit) × Bool
def lread.out : lread.X → GRes := fun x => ⟨.cons (.d (.pair (.slice (.pair (.slice (.int .u64)) (.pair (.int .i64) (.pair (.int .i64) (.pair (.int .u64) .unit))))) .unit) x.1) (.cons (.d .bool x.2) (.nil)), [], []⟩
def lread.add : lread.D → lread.Y → lread.X := fun b y => y


def lread.L1.Pre : lread.L1.D → Prop := fun (b, n, i, t, j, m1, m2, x, r, ks, bs) => RdrB r ∧ ks.length = m2 ∧ m2 ≤ 1000 ∧ ∃ k c : Nat, j = k ∧ t = c ∧ k ≤ c ∧ c ≤ 12 ∧ m2 = k
def lread.L1.F : lread.L1.D → lread.L1.Y := fun (b, n, i, t, j, m1, m2, x, r, ks, bs) => (m2 + (t - j).toNat, (keysR (t - j).toNat r).2, ks ++ (keysR (t - j).toNat r).1)
def lread.L0.Pre : lread.L0.D → Prop := fun (b, n, i, m, r, bs) => RdrB r ∧ n ≤ 9223372036854775807 ∧ bs.length = m ∧ ∃ k : Nat, i = k ∧ k ≤ 4 ∧ m = k
def lread.L0.F : lread.L0.D → lread.L0.Y := fun (b, n, i, m, r, bs) => (b, m + (brsC (5 - i.toNat) (n - i) r).length, bs ++ brsC (5 - i.toNat) (n - i) r)
def lread.Pre : lread.D → Prop := fun b => Bytes b ∧ b.length ≤ 1000000000
def lread.F : lread.D → lread.Y := fun b => readL b

noncomputable def lread.G : Gam := gcons 55 anyArgs ropen.E (gcons 56 anyArgs rnum.E (gcons 57 anyArgs ru64.E (gcons 13 anyArgs lright.E (gcons 17 anyArgs lbytes.E (gcons 58 anyArgs beq8.E (gnil))))))
noncomputable def lread.L0.E : LEntry := LEntry.of lread.L0.st lread.L0.Pre (fun d => lread.L0.add d (lread.L0.F d)) lread.L0.out
noncomputable def lread.L0.call : lread.L0.D → Option lread.L0.X := fun d => lread.L0.E.run (lread.L0.st d)
noncomputable def lread.L1.E : LEntry := LEntry.of lread.L1.st lread.L1.Pre (fun d => lread.L1.add d (lread.L1.F d)) lread.L1.out
noncomputable def lread.L1.call : lread.L1.D → Option lread.L1.X := fun d => lread.L1.E.run (lread.L1.st d)
noncomputable def lread.an : Ann := {
  objs := [],
  loops := fun r => bif Nat.beq r 5 then { keep := [0, 2, 4, 5, 6, 7], sites := [2, 5, 11, 51], frz := [], data := [], owns := [⟨5, [.fst], 51, 22⟩] } else bif Nat.beq r 11 then { keep := [0, 2, 4, 5, 6, 7, 8, 27, 28], sites := [2, 5, 8, 11, 35, 51], frz := [], data := [], owns := [⟨8, [.fst], 35, 83⟩] } else { keep := [], sites := [], frz := [], data := [], owns := [] },
  outs := fun r b => bif Nat.beq r 5 then (bif b then { keep := [2, 3], sites := [], frz := [], data := [], owns := [] } else { keep := [0, 2, 5], sites := [2, 5, 51], frz := [], data := [], owns := [] }) else bif Nat.beq r 11 then (bif b then { keep := [2, 3], sites := [], frz := [], data := [], owns := [] } else { keep := [0, 2, 4, 5, 6, 7, 8], sites := [2, 5, 8, 11, 35, 51], frz := [], data := [], owns := [] }) else { keep := [], sites := [], frz := [], data := [], owns := [] },
  sums := fun r => bif Nat.beq r 5 then some lread.L0.E else bif Nat.beq r 11 then some lread.L1.E else none,
  owns := [],
  trim := [],
  res := [some (.pair (.slice (.pair (.slice (.int .u64)) (.pair (.int .i64) (.pair (.int .i64) (.pair (.int .u64) .unit))))) .unit), none] }
theorem lread.L0.inj : ∀ d d', lread.L0.st d = lread.L0.st d' → d = d' := fun (b_2, n, i, n5L, n11, n51) (b_2', n', i', n5L', n11', n51') hEq => by
  have e0 : b_2 = b_2' := d_inj (t := (.slice (.int .u8))) (congrArg (fun s : AS => (s.slot 0)) hEq)
  have e1 : n = n' := d_inj (t := (.int .i64)) (congrArg (fun s : AS => (s.slot 6)) hEq)
  have e2 : i = i' := d_inj (t := (.int .i64)) (congrArg (fun s : AS => (s.slot 7)) hEq)
  have e3 : n5L = n5L' := congrArg (fun s : AS => srefLen (prA (entC (s.ent (.new 5 0))))) hEq
  have e4 : n11 = n11' := d_inj (t := (.pair (.slice (.int .u8)) (.pair .bool .unit))) (congrArg (fun s : AS => (entC (s.ent (.new 11 0)))) hEq)
  have e5 : n51 = n51' := vec_inj (e := 85) (t := (.pair (.slice (.int .u64)) (.pair (.int .i64) (.pair (.int .i64) (.pair (.int .u64) .unit))))) (congrArg (fun s : AS => (entC (s.ent (.new 51 0)))) hEq)
  rw [e0, e1, e2, e3, e4, e5]
theorem lread.L0.run {d : lread.L0.D} (h : lread.L0.Pre d) : lread.L0.call d = some (lread.L0.add d (lread.L0.F d)) := LEntry.of_run lread.L0.inj h
theorem lread.L0.byRounds (μ : lread.L0.D → Nat) (h : ∀ d, lread.L0.Pre d → (∃ d', lread.L0.Pre d' ∧ μ d' < μ d ∧ lread.L0.add d' (lread.L0.F d') = lread.L0.add d (lread.L0.F d) ∧ ∀ {R : Type} (kn : AS → Option R) (kx : Exit → AS → Option R), lround Tryz.prog lread.G lread.an 0 Tryz.f11 0 (lread.L0.st d) kn kx = kn (lread.L0.st d')) ∨ (∀ {R : Type} (kn : AS → Option R) (kx : Exit → AS → Option R), lround Tryz.prog lread.G lread.an 0 Tryz.f11 0 (lread.L0.st d) kn kx = kx (lread.L0.ex0 (lread.L0.add d (lread.L0.F d))).1 (lread.L0.ex0 (lread.L0.add d (lread.L0.F d))).2)) : ∀ d, lread.L0.Pre d → ∃ n, lrun Tryz.prog lread.G lread.an 0 Tryz.f11 0 n (lread.L0.st d) (fun e s => some (e, s)) = (lread.L0.out (lread.L0.add d (lread.L0.F d))).eval := lrun_one (F := fun d => lread.L0.add d (lread.L0.F d)) μ h
theorem lread.L0.step {R : Type} (b_2 : (List Int)) (n : Int) (i : Int) (n5L : Nat) (n11 : ((List Int) × (Bool × Unit))) (n51 : (List ((List Int) × (Int × (Int × (Int × Unit)))))) (kn : AS → Option R) (kx : Exit → AS → Option R) : lround Tryz.prog lread.G lread.an 0 Tryz.f11 0 (lread.L0.st (b_2, n, i, n5L, n11, n51)) kn kx =
  sel ((ilt i n)) (
   obind (rnum.call n11) fun x22 =>
   sel ((ieq i (4 : Int))) (
    kx (lread.L0.ex0 (b_2, n5L, n51)).1 (lread.L0.ex0 (b_2, n5L, n51)).2) (
    sel ((igt x22.1 (12 : Int))) (
     kx (lread.L0.ex0 (b_2, n5L, n51)).1 (lread.L0.ex0 (b_2, n5L, n51)).2) (
     obind (lread.L1.call (b_2, n, i, x22.1, (0 : Int), n5L, 0, ((0 : Int), ((0 : Int), ((0 : Int), ()))), x22.2, ([] : List Int), n51)) fun x24 =>
     obind (rnum.call x24.2.2.1) fun x31 =>
     obind (rnum.call x31.2) fun x32 =>
     obind (ru64.call x32.2) fun x36 =>
     sel (decide (0 = 0 ∧ (0 + x24.2.1) ≤ (List.length x24.2.2.2))) (
     sel (decide (x24.1.2.2.2.1 ≤ (List.length x24.1.2.2.2.2.2))) (
     sel (roomA (x24.1.2.2.2.1 + 1) 48) (
     kn (lread.L0.st (x24.1.1, x24.1.2.1, (iadd .i64 x24.1.2.2.1 (1 : Int)), (x24.1.2.2.2.1 + 1), x36.2, ((List.take x24.1.2.2.2.1 x24.1.2.2.2.2.2) ++ [((cut x24.2.2.2 0 x24.2.1), (x31.1, (x32.1, (x36.1, x24.1.2.2.2.2.1.2.2.2))))])))) none) none) none))) (
   kx (lread.L0.ex0 (b_2, n5L, n51)).1 (lread.L0.ex0 (b_2, n5L, n51)).2) := by kernel_rfl
theorem lread.L1.inj : ∀ d d', lread.L1.st d = lread.L1.st d' → d = d' := fun (b_3, n_2, i_2, t27, t28, n5L_2, n8L, n8, n11_2, n35, n51_2) (b_3', n_2', i_2', t27', t28', n5L_2', n8L', n8', n11_2', n35', n51_2') hEq => by
  have e0 : b_3 = b_3' := d_inj (t := (.slice (.int .u8))) (congrArg (fun s : AS => (s.slot 0)) hEq)
  have e1 : n_2 = n_2' := d_inj (t := (.int .i64)) (congrArg (fun s : AS => (s.slot 6)) hEq)
  have e2 : i_2 = i_2' := d_inj (t := (.int .i64)) (congrArg (fun s : AS => (s.slot 7)) hEq)
  have e3 : t27 = t27' := d_inj (t := (.int .i64)) (congrArg (fun s : AS => (s.slot 27)) hEq)
  have e4 : t28 = t28' := d_inj (t := (.int .i64)) (congrArg (fun s : AS => (s.slot 28)) hEq)
  have e5 : n5L_2 = n5L_2' := congrArg (fun s : AS => srefLen (prA (entC (s.ent (.new 5 0))))) hEq
  have e6 : n8L = n8L' := congrArg (fun s : AS => srefLen (prA (entC (s.ent (.new 8 0))))) hEq
  have e7 : n8 = n8' := d_inj (t := (.pair (.int .i64) (.pair (.int .i64) (.pair (.int .u64) .unit)))) (congrArg (fun s : AS => (prB (entC (s.ent (.new 8 0))))) hEq)
  have e8 : n11_2 = n11_2' := d_inj (t := (.pair (.slice (.int .u8)) (.pair .bool .unit))) (congrArg (fun s : AS => (entC (s.ent (.new 11 0)))) hEq)
  have e9 : n35 = n35' := vec_inj (e := 58) (t := (.int .u64)) (congrArg (fun s : AS => (entC (s.ent (.new 35 0)))) hEq)
  have e10 : n51_2 = n51_2' := vec_inj (e := 85) (t := (.pair (.slice (.int .u64)) (.pair (.int .i64) (.pair (.int .i64) (.pair (.int .u64) .unit))))) (congrArg (fun s : AS => (entC (s.ent (.new 51 0)))) hEq)
  rw [e0, e1, e2, e3, e4, e5, e6, e7, e8, e9, e10]
theorem lread.L1.run {d : lread.L1.D} (h : lread.L1.Pre d) : lread.L1.call d = some (lread.L1.add d (lread.L1.F d)) := LEntry.of_run lread.L1.inj h
theorem lread.L1.byRounds (μ : lread.L1.D → Nat) (h : ∀ d, lread.L1.Pre d → (∃ d', lread.L1.Pre d' ∧ μ d' < μ d ∧ lread.L1.add d' (lread.L1.F d') = lread.L1.add d (lread.L1.F d) ∧ ∀ {R : Type} (kn : AS → Option R) (kx : Exit → AS → Option R), lround Tryz.prog lread.G lread.an 0 Tryz.f11 1 (lread.L1.st d) kn kx = kn (lread.L1.st d')) ∨ (∀ {R : Type} (kn : AS → Option R) (kx : Exit → AS → Option R), lround Tryz.prog lread.G lread.an 0 Tryz.f11 1 (lread.L1.st d) kn kx = kx (lread.L1.ex0 (lread.L1.add d (lread.L1.F d))).1 (lread.L1.ex0 (lread.L1.add d (lread.L1.F d))).2)) : ∀ d, lread.L1.Pre d → ∃ n, lrun Tryz.prog lread.G lread.an 0 Tryz.f11 1 n (lread.L1.st d) (fun e s => some (e, s)) = (lread.L1.out (lread.L1.add d (lread.L1.F d))).eval := lrun_one (F := fun d => lread.L1.add d (lread.L1.F d)) μ h
theorem lread.L1.step {R : Type} (b_3 : (List Int)) (n_2 : Int) (i_2 : Int) (t27 : Int) (t28 : Int) (n5L_2 : Nat) (n8L : Nat) (n8 : (Int × (Int × (Int × Unit)))) (n11_2 : ((List Int) × (Bool × Unit))) (n35 : (List Int)) (n51_2 : (List ((List Int) × (Int × (Int × (Int × Unit)))))) (kn : AS → Option R) (kx : Exit → AS → Option R) : lround Tryz.prog lread.G lread.an 0 Tryz.f11 1 (lread.L1.st (b_3, n_2, i_2, t27, t28, n5L_2, n8L, n8, n11_2, n35, n51_2)) kn kx =
  sel ((ilt t28 t27)) (
   obind (ru64.call n11_2) fun x4 =>
   sel (decide (n8L ≤ (List.length n35))) (
   sel (roomA (n8L + 1) 8) (
   kn (lread.L1.st (b_3, n_2, i_2, t27, (iadd .i64 t28 (1 : Int)), n5L_2, (n8L + 1), n8, x4.2, ((List.take n8L n35) ++ [x4.1]), n51_2))) none) none) (
   kx (lread.L1.ex0 ((b_3, n_2, i_2, n5L_2, n8, n51_2), (n8L, n11_2, n35))).1 (lread.L1.ex0 ((b_3, n_2, i_2, n5L_2, n8, n51_2), (n8L, n11_2, n35))).2) := by kernel_rfl
theorem lread.eq {R : Type} (b : (List Int)) (k : GRes → Option R) : arun Tryz.prog lread.G lread.an 0 Tryz.f11 (lread.st b).1 (lread.st b).2 k =
  obind (ropen.call b) fun x4 =>
  obind (rnum.call x4) fun x6 =>
  obind (lread.L0.call (b, x6.1, (0 : Int), 0, x6.2, ([] : List ((List Int) × (Int × (Int × (Int × Unit))))))) fun x96 =>
  sel (decide (0 = 0 ∧ (0 + x96.2.1) ≤ (List.length x96.2.2))) (
  obind (lright.call ((cut x96.2.2 0 x96.2.1), ())) fun x106 =>
  sel ((!x106)) (
   k (lread.out ((([] : List ((List Int) × (Int × (Int × (Int × Unit))))), ()), false))) (
   sel (decide (0 = 0 ∧ (0 + x96.2.1) ≤ (List.length x96.2.2))) (
   obind (lbytes.call ((cut x96.2.2 0 x96.2.1), ())) fun x107 =>
   obind (beq8.call (x107, x96.1)) fun x108 =>
   sel ((!x108)) (
    k (lread.out ((([] : List ((List Int) × (Int × (Int × (Int × Unit))))), ()), false))) (
    sel (decide (0 = 0 ∧ (0 + x96.2.1) ≤ (List.length x96.2.2))) (
    k (lread.out (((cut x96.2.2 0 x96.2.1), ()), true))) none)) none)) none := by kernel_rfl


theorem lread.L1.ok : ∀ d, lread.L1.Pre d → ∃ n, lrun Tryz.prog lread.G lread.an 0 Tryz.f11 1 n (lread.L1.st d) (fun e s => some (e, s)) = (lread.L1.out (lread.L1.add d (lread.L1.F d))).eval := by
  refine lread.L1.byRounds (fun (b, n, i, t, j, m1, m2, x, r, ks, bs) => (t - j).toNat) ?_
  rintro ⟨b, n, i, t, j, m1, m2, x, r, ks, bs⟩ ⟨hr, hks, hm, k, c, rfl, rfl, hkc, hc, hmk⟩
  have hr : RdrB r := hr
  have hks : ks.length = m2 := hks
  have hmk : m2 = k := hmk
  by_cases h : k < c
  · left
    have e1 : ((c : Int) - (k : Int)).toNat = (c - (k + 1)) + 1 := by omega
    have e2 : ((c : Int) - ((k + 1 : Nat) : Int)).toNat = c - (k + 1) := by omega
    refine ⟨(b, n, i, (c : Int), ((k + 1 : Nat) : Int), m1, m2 + 1, x, (u64R r).2, ks ++ [(u64R r).1], bs), ⟨(u64R_u hr).2, by rw [List.length_append]; show ks.length + 1 = _; omega, by omega, k + 1, c, rfl, rfl, by omega, hc, by omega⟩, by show ((c : Int) - ((k + 1 : Nat) : Int)).toNat < ((c : Int) - (k : Int)).toNat; omega, ?_, fun kn kx => ?_⟩
    · simp only [lread.L1.add, lread.L1.F, e1, e2, keysR, List.append_assoc, List.singleton_append]
      rw [show m2 + 1 + (c - (k + 1)) = m2 + (c - (k + 1) + 1) by omega]
    · rw [lread.L1.step, ilt_true (by omega), ru64.run (d := r) hr]
      simp only [obind_some, sel_true, ru64.add, ru64.F]
      rw [dec_true (by omega), room_true (by omega) (by omega), N.aNL (by omega), List.take_of_length_le (by omega)]
      rfl
  · right
    obtain rfl : k = c := by omega
    intro R kn kx
    rw [lread.L1.step, ilt_false (by omega), sel_false]
    simp only [lread.L1.add, lread.L1.F, Int.sub_self, Int.toNat_zero, keysR, List.append_nil, Nat.add_zero]
theorem lread.L0.ok : ∀ d, lread.L0.Pre d → ∃ n, lrun Tryz.prog lread.G lread.an 0 Tryz.f11 0 n (lread.L0.st d) (fun e s => some (e, s)) = (lread.L0.out (lread.L0.add d (lread.L0.F d))).eval := by
  refine lread.L0.byRounds (fun (b, n, i, m, r, bs) => 5 - i.toNat) ?_
  rintro ⟨b, n, i, m, r, bs⟩ ⟨hr, hn, hbs, k, rfl, hk, hmk⟩
  have hr : RdrB r := hr
  have hn : n ≤ 9223372036854775807 := hn
  have hbs : bs.length = m := hbs
  have hmk : m = k := hmk
  have e0 : 5 - (k : Int).toNat = (4 - k) + 1 := by rw [Int.toNat_natCast]; omega
  have g1 := numR_ok hr
  by_cases h : (k : Int) < n
  · have hp : 0 < n - (k : Int) := by omega
    by_cases hc : 4 - k = 0 ∨ 12 < (numR r).1
    · right
      intro R kn kx
      have eb : brsC ((4 - k) + 1) (n - (k : Int)) r = [] := by rw [brsC, if_pos hp, if_pos hc]
      rw [lread.L0.step, ilt_true h, rnum.run (d := r) hr]
      simp only [obind_some, sel_true, rnum.add, rnum.F, lread.L0.add, lread.L0.F, e0, eb, List.length_nil, Nat.add_zero, List.append_nil]
      by_cases h4 : (k : Int) = 4
      · rw [ieq_true h4, sel_true]
      · rw [ieq_false h4, sel_false, igt_true (by omega), sel_true]
    · left
      have h4 : ¬ (k : Int) = 4 := by omega
      have hkn : ¬ (numR r).1 > 12 := by omega
      obtain ⟨c, hcn⟩ : ∃ c : Nat, (numR r).1 = c := ⟨(numR r).1.toNat, by omega⟩
      have hbd := bodyR_b c _ g1.2.2
      have gk := keysR_b c _ g1.2.2
      have ga := numR_ok gk.2.2
      have gd := numR_ok ga.2.2
      have eb : brsC ((4 - k) + 1) (n - (k : Int)) r = (bodyR c (numR r).2).1 :: brsC (4 - k) (n - (k : Int) - 1) (bodyR c (numR r).2).2 := by
        rw [brsC, if_pos hp, if_neg hc, hcn, Int.toNat_natCast]
      have e1 : 5 - ((k + 1 : Nat) : Int).toNat = 4 - k := by rw [Int.toNat_natCast]; omega
      refine ⟨(b, n, ((k + 1 : Nat) : Int), m + 1, (bodyR c (numR r).2).2, bs ++ [(bodyR c (numR r).2).1]), ⟨hbd.2.2, hn, by rw [List.length_append]; show bs.length + 1 = _; omega, k + 1, rfl, by omega, by omega⟩, by simp only [Int.toNat_natCast]; omega, ?_, fun kn kx => ?_⟩
      · simp only [lread.L0.add, lread.L0.F, e0, e1, eb, List.append_assoc, List.singleton_append, List.length_cons]
        rw [show n - ((k + 1 : Nat) : Int) = n - (k : Int) - 1 by omega, show m + 1 + (brsC (4 - k) (n - (k : Int) - 1) (bodyR c (numR r).2).2).length = m + ((brsC (4 - k) (n - (k : Int) - 1) (bodyR c (numR r).2).2).length + 1) by omega]
      · rw [lread.L0.step, ilt_true h, rnum.run (d := r) hr]
        simp only [obind_some, sel_true, rnum.add, rnum.F]
        rw [ieq_false h4, sel_false, igt_false hkn, sel_false, hcn, lread.L1.run (d := (b, n, (k : Int), (c : Int), 0, m, 0, (0, 0, 0, ()), (numR r).2, [], bs)) ⟨g1.2.2, rfl, by decide, 0, c, rfl, rfl, Nat.zero_le _, by omega, rfl⟩]
        simp only [obind_some, lread.L1.add, lread.L1.F, Int.sub_zero, Int.toNat_natCast, Nat.zero_add, List.nil_append]
        rw [rnum.run (d := (keysR c (numR r).2).2) gk.2.2]
        simp only [obind_some, rnum.add, rnum.F]
        rw [rnum.run (d := (numR (keysR c (numR r).2).2).2) ga.2.2]
        simp only [obind_some, rnum.add, rnum.F]
        rw [ru64.run (d := (numR (numR (keysR c (numR r).2).2).2).2) gd.2.2]
        simp only [obind_some, ru64.add, ru64.F]
        rw [dec_true ⟨by trivial, by rw [gk.2.1]; exact Nat.le_refl _⟩, dec_true (by omega), room_true (by omega) (by omega), N.aNL (by omega), List.take_of_length_le (by omega), cut_len gk.2.1]
        rfl
  · right
    intro R kn kx
    have eb : brsC ((4 - k) + 1) (n - (k : Int)) r = [] := by rw [brsC, if_neg (by omega)]
    rw [lread.L0.step, ilt_false h, sel_false]
    simp only [lread.L0.add, lread.L0.F, e0, eb, List.length_nil, Nat.add_zero, List.append_nil]
theorem lread.ok : ∀ d, lread.Pre d → arun Tryz.prog lread.G lread.an 0 Tryz.f11 (lread.st d).1 (lread.st d).2 some = some (lread.out (lread.add d (lread.F d))) := by
  rintro b ⟨hb, hl⟩
  have hb : Bytes b := hb
  have hl : b.length ≤ 1000000000 := hl
  have g0 := rdr_of hb hl (false, ())
  have g1 := numR_ok g0
  have gu := readC_u hb hl
  rw [lread.eq, ropen.run (d := b) hl]
  simp only [obind_some, ropen.add, ropen.F]
  rw [rnum.run (d := (b, false, ())) g0]
  simp only [obind_some, rnum.add, rnum.F]
  rw [lread.L0.run (d := (b, (numR (b, false, ())).1, 0, 0, (numR (b, false, ())).2, [])) ⟨g1.2.2, g1.2.1, rfl, 0, rfl, by decide, rfl⟩]
  simp only [obind_some, lread.L0.add, lread.L0.F, Int.toNat_zero, Nat.sub_zero, Int.sub_zero, Nat.zero_add, List.nil_append, Nat.le_refl, and_self, decide_true, sel_true, cut_len]
  rw [show brsC 5 (numR (b, false, ())).1 (numR (b, false, ())).2 = readC b from rfl]
  have hL1 : ((readC b, ()) : Lk).1.length ≤ 1000000000 := by show (readC b).length ≤ _; omega
  rw [lright.run (d := (readC b, ())) ⟨gu.1, hL1⟩]
  simp only [obind_some, lright.add, lright.F, lread.add, lread.F, readL]
  cases hok : lkOk (readC b, ())
  · rw [if_neg (by rintro ⟨x, _⟩; cases x)]; rfl
  · rw [lbytes.run (d := (readC b, ())) ⟨gu.1, hL1⟩]
    simp only [Bool.not_true, sel_false, obind_some, lbytes.add, lbytes.F]
    rw [beq8.run (d := (lkB (readC b, ()), b)) (by show (lkB _).length ≤ _; have := lkB_len (readC b, ()); omega)]
    simp only [obind_some, beq8.add, beq8.F]
    by_cases hx : lkB (readC b, ()) = b
    · rw [dec_true hx, if_pos ⟨by trivial, hx⟩]; rfl
    · rw [dec_false hx, if_neg (fun y => hx y.2)]; rfl

theorem lread.inj : ∀ d d', lread.st d = lread.st d' → d = d' := fun b b' hEq => by
  have e0 : b = b' := d_inj (t := (.slice (.int .u8))) (congrArg (fun s : List AVal × List Ent => (s.1.getD 0 .undef)) hEq)
  rw [e0]
noncomputable def lread.E : Entry := Entry.of [some (.slice (.int .u8))] lread.st lread.Pre (fun d => lread.add d (lread.F d)) lread.out
noncomputable def lread.call : lread.D → Option lread.X := fun d => lread.E.run (lread.st d).1 (lread.st d).2
theorem lread.run {d : lread.D} (h : lread.Pre d) : lread.call d = some (lread.add d (lread.F d)) := Entry.of_run lread.inj h
theorem lread.does : Does Tryz.prog 11 lread.E := Does.of (by kernel_rfl) (show Sound _ lread.G from Sound.cons ropen.does (Sound.cons rnum.does (Sound.cons ru64.does (Sound.cons lright.does (Sound.cons lbytes.does (Sound.cons beq8.does (Sound.nil _))))))) (by kernel_rfl) (by kernel_rfl) (by kernel_rfl) (LOk.fn 2 (by kernel_rfl) (And.intro (LDo.of (by kernel_rfl) lread.L0.ok) (And.intro (LDo.of (by kernel_rfl) lread.L1.ok) trivial))) lread.ok

end Go.Ab
namespace Go.Ab
open Go.Proofs
set_option maxRecDepth 100000
set_option linter.unusedVariables false
set_option linter.unusedSimpArgs false

theorem pow_emod (x : Int) (m : Int) : ∀ k : Nat, (x % m) ^ k % m = x ^ k % m
  | 0 => by rw [Int.pow_zero, Int.pow_zero]
  | k + 1 => by rw [Int.pow_succ, Int.pow_succ, Int.mul_emod, pow_emod x m k, Int.emod_emod_of_dvd _ (Int.dvd_refl m), ← Int.mul_emod]
theorem sq_pow (a : Int) (k : Nat) : (a * a) ^ k = a ^ (2 * k) := by
  rw [Int.pow_mul, Int.pow_succ, Int.pow_succ, Int.pow_zero, Int.one_mul]
theorem pwF_eq : ∀ (f : Nat) (a : Int) (n : Nat) (out : Int), n < 2 ^ f → Pn out → pwF f a n out = out * a ^ n % 4611686018427377339
  | 0, a, n, out, h, ho => by
    obtain rfl : n = 0 := by omega
    rw [pwF_zero, Int.pow_zero, Int.mul_one, Int.emod_eq_of_lt ho.1 ho.2]
  | f + 1, a, n, out, h, ho => by
    have e : (2 : Nat) ^ (f + 1) = 2 ^ f * 2 := Nat.pow_succ 2 f
    rw [pwF]
    split
    · rename_i h0
      subst h0
      rw [Int.pow_zero, Int.mul_one, Int.emod_eq_of_lt ho.1 ho.2]
    · have hp : Pn (if n % 2 = 1 then mulP out a else out) := by
        split
        · exact mulP_ok _ _
        · exact ho
      rw [pwF_eq f _ _ _ (by omega) hp, Int.mul_emod]
      have e1 : (mulP a a) ^ (n / 2) % 4611686018427377339 = a ^ (2 * (n / 2)) % 4611686018427377339 := by
        unfold mulP
        rw [pow_emod, sq_pow]
      have e2 : (if n % 2 = 1 then mulP out a else out) % 4611686018427377339 = (out * a ^ (n % 2)) % 4611686018427377339 := by
        split
        · rename_i h1
          rw [h1, Int.pow_succ, Int.pow_zero, Int.one_mul]
          exact Int.emod_emod_of_dvd _ (Int.dvd_refl _)
        · have h1 : n % 2 = 0 := by omega
          rw [h1, Int.pow_zero, Int.mul_one]
      rw [e1, e2, ← Int.mul_emod, Int.mul_assoc, ← Int.pow_add]
      have e3 : n % 2 + 2 * (n / 2) = n := by omega
      rw [e3]
theorem pw_eq (a : Int) (n : Nat) (h : n < 18446744073709551616) : pw a n = a ^ n % 4611686018427377339 := by
  unfold pw
  rw [pwF_eq 64 a n 1 h ⟨by omega, by omega⟩, Int.one_mul]
theorem one_pow (k : Nat) : (1 : Int) ^ k = 1 := Int.one_pow
/-- What has an order, has each power of it, too. -/
theorem pw_order (a : Int) (k q : Nat) (hk : k < 18446744073709551616) (hq : q < 18446744073709551616) (h : pw a q = 1) : pw (pw a k) q = 1 := by
  rw [pw_eq _ _ hq] at h
  rw [pw_eq _ _ hq, pw_eq _ _ hk, pow_emod, ← Int.pow_mul, Nat.mul_comm, Int.pow_mul, ← pow_emod, h, one_pow]
  rfl
theorem gen_order : pw 4 2305843009213688669 = 1 := by decide +kernel
theorem one_order : pw 1 2305843009213688669 = 1 := by decide +kernel
theorem isP_gen : isP 4 = true := by rw [isP, gen_order]; rfl
theorem isP_one : isP 1 = true := by rw [isP, one_order]; rfl
theorem neg_one : negP 1 = 1 := by
  have e : pw 1 2305843009213688668 = 1 := by decide +kernel
  rw [negP, tk, isP_one]
  exact e
theorem pos_of_order {a : Int} (h : Pn a) (q : Nat) (hq : 0 < q) (hq2 : q < 18446744073709551616) (hp : pw a q = 1) : 0 < a := by
  rcases Int.lt_or_eq_of_le h.1 with h0 | h0
  · exact h0
  · subst h0
    rw [pw_eq _ _ hq2, Int.zero_pow (by omega)] at hp
    cases hp
theorem isP_of {a : Int} (h : Pn a) (hp : pw a 2305843009213688669 = 1) : isP a = true := by
  have h0 := pos_of_order h 2305843009213688669 (by decide) (by decide) hp
  rw [isP, hp, decide_eq_true ⟨h0, h.2⟩]; rfl
theorem isP_order {a : Int} (h : isP a = true) : pw a 2305843009213688669 = 1 ∧ Pn a := by
  rw [isP, Bool.and_eq_true, decide_eq_true_eq, decide_eq_true_eq] at h
  exact ⟨h.2, by omega, h.1.2⟩
theorem isP_pw {a : Int} (h : isP a = true) (k : Nat) (hk : k < 18446744073709551616) : isP (pw a k) = true :=
  isP_of (pw_ok _ _) (pw_order a k _ hk (by decide) (isP_order h).1)
theorem isP_tk (a : Int) : isP (tk a) = true := by
  unfold tk
  cases h : isP a
  · exact isP_one
  · exact h
theorem isP_scale (p k : Int) : isP (scaleP p k) = true := isP_pw (isP_tk p) _ (by omega)
theorem tk_of {a : Int} (h : isP a = true) : tk a = a := by rw [tk, h]; rfl
theorem isP_base (k : Int) : isP (baseP k) = true := isP_scale 4 k
theorem mul_one' {a : Int} (h : Pn a) : mulP a 1 = a := by rw [mulP, Int.mul_one, Int.emod_eq_of_lt h.1 h.2]
theorem sum_three (a b c : Int) : sumP [a, b, c] = mulP (mulP (mulP 1 (tk a)) (tk b)) (tk c) := rfl
/-- The equation of a signature that lacks nothing, in two ways. -/
theorem checks_eq (r sc s : Int) : (baseP s = sumP [r, sc, negP 1]) = (sumP [baseP s, 1] = sumP [r, sc]) := by
  have e1 : sumP [baseP s, 1] = baseP s := by
    show mulP (mulP 1 (tk (baseP s))) (tk 1) = _
    rw [tk_of (isP_base s), tk_of isP_one, mul_one' (mulP_ok _ _), mulP, Int.one_mul]
    have h := (isP_order (isP_base s)).2
    exact Int.emod_eq_of_lt h.1 h.2
  have e2 : sumP [r, sc, negP 1] = sumP [r, sc] := by
    rw [neg_one]
    show mulP (mulP (mulP 1 (tk r)) (tk sc)) (tk 1) = mulP (mulP 1 (tk r)) (tk sc)
    rw [tk_of isP_one, mul_one' (mulP_ok _ _)]
  rw [e1, e2]

end Go.Ab
namespace Go.Ab
open Go.Proofs
set_option maxRecDepth 100000
set_option linter.unusedVariables false
set_option linter.unusedSimpArgs false

/-! ### corsned/corsnedref06.times -/
abbrev r6times.L0.D := Int × Int × Int
def r6times.L0.st : r6times.L0.D → AS := fun (a_2, b_2, outv) => ⟨([.d (.int .u64) a_2, .d (.int .u64) b_2, .undef, .undef, .undef, .d (.int .u64) outv] ++ undN 16 []), [], (List.replicate 22 [])⟩
abbrev r6times.L0.Y0 := Int  -- out
abbrev r6times.L0.X0 := Int
def r6times.L0.ex0 : r6times.L0.X0 → Exit × AS := fun x => (.exit 0, ⟨(undN 5 ([.d (.int .u64) x] ++ undN 16 [])), [], (List.replicate 22 [])⟩)
abbrev r6times.L0.X := r6times.L0.X0
abbrev r6times.L0.Y := r6times.L0.Y0
def r6times.L0.out : r6times.L0.X → Out (Exit × AS) := fun x => .ok (r6times.L0.ex0 x)
def r6times.L0.add : r6times.L0.D → r6times.L0.Y → r6times.L0.X := fun (a_2, b_2, outv) y => y
abbrev r6times.D := Int × Int
def r6times.st : r6times.D → List AVal × List Ent := fun (a, b) => ([.d (.int .u64) a, .d (.int .u64) b], [])
abbrev r6times.Y := Int
abbrev r6times.X := Int
def r6times.out : r6times.X → GRes := fun x => ⟨.d (.int .u64) x, [], []⟩
def r6times.add : r6times.D → r6times.Y → r6times.X := fun (a, b) y => y


def r6times.L0.Pre : r6times.L0.D → Prop := fun (a, b, o) => Pn a ∧ U64 b ∧ Pn o
def r6times.L0.F : r6times.L0.D → r6times.L0.Y := fun (a, b, o) => (o + a * b) % 4611686018427377339
def r6times.Pre : r6times.D → Prop := fun (a, b) => Pn a ∧ U64 b
def r6times.F : r6times.D → r6times.Y := fun (a, b) => mulP a b

noncomputable def r6times.G : Gam := gnil
noncomputable def r6times.L0.E : LEntry := LEntry.of r6times.L0.st r6times.L0.Pre (fun d => r6times.L0.add d (r6times.L0.F d)) r6times.L0.out
noncomputable def r6times.L0.call : r6times.L0.D → Option r6times.L0.X := fun d => r6times.L0.E.run (r6times.L0.st d)
noncomputable def r6times.an : Ann := {
  objs := [],
  loops := fun r => bif Nat.beq r 2 then { keep := [0, 1, 5], sites := [], frz := [], data := [], owns := [] } else { keep := [], sites := [], frz := [], data := [], owns := [] },
  outs := fun r b => bif Nat.beq r 2 then (bif b then { keep := [4], sites := [], frz := [], data := [], owns := [] } else { keep := [5], sites := [], frz := [], data := [], owns := [] }) else { keep := [], sites := [], frz := [], data := [], owns := [] },
  sums := fun r => bif Nat.beq r 2 then some r6times.L0.E else none,
  owns := [],
  trim := [],
  res := [] }
theorem r6times.L0.inj : ∀ d d', r6times.L0.st d = r6times.L0.st d' → d = d' := fun (a_2, b_2, outv) (a_2', b_2', outv') hEq => by
  have e0 : a_2 = a_2' := d_inj (t := (.int .u64)) (congrArg (fun s : AS => (s.slot 0)) hEq)
  have e1 : b_2 = b_2' := d_inj (t := (.int .u64)) (congrArg (fun s : AS => (s.slot 1)) hEq)
  have e2 : outv = outv' := d_inj (t := (.int .u64)) (congrArg (fun s : AS => (s.slot 5)) hEq)
  rw [e0, e1, e2]
theorem r6times.L0.run {d : r6times.L0.D} (h : r6times.L0.Pre d) : r6times.L0.call d = some (r6times.L0.add d (r6times.L0.F d)) := LEntry.of_run r6times.L0.inj h
theorem r6times.L0.byRounds (μ : r6times.L0.D → Nat) (h : ∀ d, r6times.L0.Pre d → (∃ d', r6times.L0.Pre d' ∧ μ d' < μ d ∧ r6times.L0.add d' (r6times.L0.F d') = r6times.L0.add d (r6times.L0.F d) ∧ ∀ {R : Type} (kn : AS → Option R) (kx : Exit → AS → Option R), lround Tryz.prog r6times.G r6times.an 0 Tryz.f169 0 (r6times.L0.st d) kn kx = kn (r6times.L0.st d')) ∨ (∀ {R : Type} (kn : AS → Option R) (kx : Exit → AS → Option R), lround Tryz.prog r6times.G r6times.an 0 Tryz.f169 0 (r6times.L0.st d) kn kx = kx (r6times.L0.ex0 (r6times.L0.add d (r6times.L0.F d))).1 (r6times.L0.ex0 (r6times.L0.add d (r6times.L0.F d))).2)) : ∀ d, r6times.L0.Pre d → ∃ n, lrun Tryz.prog r6times.G r6times.an 0 Tryz.f169 0 n (r6times.L0.st d) (fun e s => some (e, s)) = (r6times.L0.out (r6times.L0.add d (r6times.L0.F d))).eval := lrun_one (F := fun d => r6times.L0.add d (r6times.L0.F d)) μ h
theorem r6times.L0.step {R : Type} (a_2 : Int) (b_2 : Int) (outv : Int) (kn : AS → Option R) (kx : Exit → AS → Option R) : lround Tryz.prog r6times.G r6times.an 0 Tryz.f169 0 (r6times.L0.st (a_2, b_2, outv)) kn kx =
  sel ((igt b_2 (0 : Int))) (
   sel ((ieq (irem b_2 (2 : Int)) (1 : Int))) (
    kn (r6times.L0.st ((irem (iadd .u64 a_2 a_2) (4611686018427377339 : Int)), (iquo .u64 b_2 (2 : Int)), (irem (iadd .u64 outv a_2) (4611686018427377339 : Int))))) (
    kn (r6times.L0.st ((irem (iadd .u64 a_2 a_2) (4611686018427377339 : Int)), (iquo .u64 b_2 (2 : Int)), outv)))) (
   kx (r6times.L0.ex0 outv).1 (r6times.L0.ex0 outv).2) := by kernel_rfl
theorem r6times.eq {R : Type} (a : Int) (b : Int) (k : GRes → Option R) : arun Tryz.prog r6times.G r6times.an 0 Tryz.f169 (r6times.st (a, b)).1 (r6times.st (a, b)).2 k =
  obind (r6times.L0.call (a, b, (0 : Int))) fun x1 =>
  k (r6times.out x1) := by kernel_rfl


theorem half_step (o a b : Int) (m : Int) : (o + a * b) % m = ((if b % 2 = 1 then (o + a) % m else o) + (a + a) % m * (b / 2)) % m := by
  have e : b = 2 * (b / 2) + b % 2 := by omega
  have hb : b % 2 = 0 ∨ b % 2 = 1 := by omega
  generalize b / 2 = q at *
  have l1 : ∀ x y : Int, (x % m + (a + a) % m * y) % m = (x + (a + a) * y) % m := fun x y => by
    rw [Int.add_emod, Int.emod_emod_of_dvd _ (Int.dvd_refl m), Int.mul_emod, Int.emod_emod_of_dvd _ (Int.dvd_refl m), ← Int.mul_emod, ← Int.add_emod]
  have l2 : ∀ x y : Int, (x + (a + a) % m * y) % m = (x + (a + a) * y) % m := fun x y => by
    rw [Int.add_emod, Int.mul_emod, Int.emod_emod_of_dvd _ (Int.dvd_refl m), ← Int.mul_emod, ← Int.add_emod]
  rcases hb with h | h
  · rw [if_neg (by omega), l2]
    rw [h] at e
    rw [e, Int.add_zero, Int.add_mul, ← Int.mul_assoc, Int.mul_comm a 2, Int.two_mul, Int.add_mul]
  · rw [if_pos h, l1]
    rw [h] at e
    rw [e, Int.mul_add, Int.mul_one, ← Int.mul_assoc, Int.mul_comm a 2, Int.two_mul]
    congr 1
    omega
theorem iquo2 {n : Int} (h : U64 n) : iquo .u64 n 2 = n / 2 := iquo_nn h.1 (by omega) h.2
theorem r6times.L0.ok : ∀ d, r6times.L0.Pre d → ∃ n, lrun Tryz.prog r6times.G r6times.an 0 Tryz.f169 0 n (r6times.L0.st d) (fun e s => some (e, s)) = (r6times.L0.out (r6times.L0.add d (r6times.L0.F d))).eval := by
  refine r6times.L0.byRounds (fun (a, b, o) => b.toNat) ?_
  rintro ⟨a, b, o⟩ ⟨ha, hb, ho⟩
  have ha : Pn a := ha
  have hb : U64 b := hb
  have ho : Pn o := ho
  obtain ⟨a0, a1⟩ := ha
  obtain ⟨b0, b1⟩ := hb
  obtain ⟨o0, o1⟩ := ho
  by_cases h : 0 < b
  · left
    have e1 : irem (iadd .u64 a a) 4611686018427377339 = (a + a) % 4611686018427377339 := by
      have : iadd .u64 a a = a + a := by rw [iadd_um]; omega
      rw [this, irem_nn (by omega)]
    have e2 : irem (iadd .u64 o a) 4611686018427377339 = (o + a) % 4611686018427377339 := by
      have : iadd .u64 o a = o + a := by rw [iadd_um]; omega
      rw [this, irem_nn (by omega)]
    refine ⟨((a + a) % 4611686018427377339, b / 2, if b % 2 = 1 then (o + a) % 4611686018427377339 else o), ⟨⟨by omega, by omega⟩, ⟨by omega, by omega⟩, ?_⟩, by simp only []; omega, ?_, fun kn kx => ?_⟩
    · show Pn (if b % 2 = 1 then (o + a) % 4611686018427377339 else o)
      split
      · exact ⟨by omega, by omega⟩
      · exact ⟨o0, o1⟩
    · exact congrArg _ (half_step o a b 4611686018427377339).symm
    · rw [r6times.L0.step, igt_true h, e1, e2, iquo2 ⟨b0, b1⟩, irem_nn b0]
      by_cases h1 : b % 2 = 1
      · rw [ieq_true h1, if_pos h1]; rfl
      · rw [ieq_false h1, if_neg h1]; rfl
  · right
    intro R kn kx
    obtain rfl : b = 0 := by omega
    rw [r6times.L0.step, igt_false (by omega)]
    simp only [sel_false, r6times.L0.add, r6times.L0.F]
    rw [show (o + a * 0) % 4611686018427377339 = o by omega]
theorem r6times.ok : ∀ d, r6times.Pre d → arun Tryz.prog r6times.G r6times.an 0 Tryz.f169 (r6times.st d).1 (r6times.st d).2 some = some (r6times.out (r6times.add d (r6times.F d))) := by
  rintro ⟨a, b⟩ ⟨ha, hb⟩
  rw [r6times.eq, r6times.L0.run (d := (a, b, 0)) ⟨ha, hb, by omega, by omega⟩]
  simp only [obind_some, r6times.L0.add, r6times.L0.F, Int.zero_add]
  rfl

theorem r6times.inj : ∀ d d', r6times.st d = r6times.st d' → d = d' := fun (a, b) (a', b') hEq => by
  have e0 : a = a' := d_inj (t := (.int .u64)) (congrArg (fun s : List AVal × List Ent => (s.1.getD 0 .undef)) hEq)
  have e1 : b = b' := d_inj (t := (.int .u64)) (congrArg (fun s : List AVal × List Ent => (s.1.getD 1 .undef)) hEq)
  rw [e0, e1]
noncomputable def r6times.E : Entry := Entry.of [some (.int .u64), some (.int .u64)] r6times.st r6times.Pre (fun d => r6times.add d (r6times.F d)) r6times.out
noncomputable def r6times.call : r6times.D → Option r6times.X := fun d => r6times.E.run (r6times.st d).1 (r6times.st d).2
theorem r6times.run {d : r6times.D} (h : r6times.Pre d) : r6times.call d = some (r6times.add d (r6times.F d)) := Entry.of_run r6times.inj h
theorem r6times.does : Does Tryz.prog 169 r6times.E := Does.of (by kernel_rfl) (show Sound _ r6times.G from Sound.nil _) (by kernel_rfl) (by kernel_rfl) (by kernel_rfl) (LOk.fn 1 (by kernel_rfl) (And.intro (LDo.of (by kernel_rfl) r6times.L0.ok) trivial)) r6times.ok

/-! ### corsned/corsnedref06.power -/
abbrev r6power.L0.D := Int × Int × Int
def r6power.L0.st : r6power.L0.D → AS := fun (a_2, n_2, outv) => ⟨([.d (.int .u64) a_2, .d (.int .u64) n_2, .undef, .undef, .undef, .d (.int .u64) outv] ++ undN 14 []), [], (List.replicate 20 [])⟩
abbrev r6power.L0.Y0 := Int  -- out
abbrev r6power.L0.X0 := Int
def r6power.L0.ex0 : r6power.L0.X0 → Exit × AS := fun x => (.exit 0, ⟨(undN 5 ([.d (.int .u64) x] ++ undN 14 [])), [], (List.replicate 20 [])⟩)
abbrev r6power.L0.X := r6power.L0.X0
abbrev r6power.L0.Y := r6power.L0.Y0
def r6power.L0.out : r6power.L0.X → Out (Exit × AS) := fun x => .ok (r6power.L0.ex0 x)
def r6power.L0.add : r6power.L0.D → r6power.L0.Y → r6power.L0.X := fun (a_2, n_2, outv) y => y
abbrev r6power.D := Int × Int
def r6power.st : r6power.D → List AVal × List Ent := fun (a, n) => ([.d (.int .u64) a, .d (.int .u64) n], [])
abbrev r6power.Y := Int
abbrev r6power.X := Int
def r6power.out : r6power.X → GRes := fun x => ⟨.d (.int .u64) x, [], []⟩
def r6power.add : r6power.D → r6power.Y → r6power.X := fun (a, n) y => y


def r6power.L0.Pre : r6power.L0.D → Prop := fun (a, n, o) => Pn a ∧ U64 n ∧ Pn o
def r6power.L0.F : r6power.L0.D → r6power.L0.Y := fun (a, n, o) => pwF 64 a n.toNat o
def r6power.Pre : r6power.D → Prop := fun (a, n) => Pn a ∧ U64 n
def r6power.F : r6power.D → r6power.Y := fun (a, n) => pw a n.toNat

noncomputable def r6power.G : Gam := gcons 169 anyArgs r6times.E (gnil)
noncomputable def r6power.L0.E : LEntry := LEntry.of r6power.L0.st r6power.L0.Pre (fun d => r6power.L0.add d (r6power.L0.F d)) r6power.L0.out
noncomputable def r6power.L0.call : r6power.L0.D → Option r6power.L0.X := fun d => r6power.L0.E.run (r6power.L0.st d)
noncomputable def r6power.an : Ann := {
  objs := [],
  loops := fun r => bif Nat.beq r 2 then { keep := [0, 1, 5], sites := [], frz := [], data := [], owns := [] } else { keep := [], sites := [], frz := [], data := [], owns := [] },
  outs := fun r b => bif Nat.beq r 2 then (bif b then { keep := [4], sites := [], frz := [], data := [], owns := [] } else { keep := [5], sites := [], frz := [], data := [], owns := [] }) else { keep := [], sites := [], frz := [], data := [], owns := [] },
  sums := fun r => bif Nat.beq r 2 then some r6power.L0.E else none,
  owns := [],
  trim := [],
  res := [] }
theorem r6power.L0.inj : ∀ d d', r6power.L0.st d = r6power.L0.st d' → d = d' := fun (a_2, n_2, outv) (a_2', n_2', outv') hEq => by
  have e0 : a_2 = a_2' := d_inj (t := (.int .u64)) (congrArg (fun s : AS => (s.slot 0)) hEq)
  have e1 : n_2 = n_2' := d_inj (t := (.int .u64)) (congrArg (fun s : AS => (s.slot 1)) hEq)
  have e2 : outv = outv' := d_inj (t := (.int .u64)) (congrArg (fun s : AS => (s.slot 5)) hEq)
  rw [e0, e1, e2]
theorem r6power.L0.run {d : r6power.L0.D} (h : r6power.L0.Pre d) : r6power.L0.call d = some (r6power.L0.add d (r6power.L0.F d)) := LEntry.of_run r6power.L0.inj h
theorem r6power.L0.byRounds (μ : r6power.L0.D → Nat) (h : ∀ d, r6power.L0.Pre d → (∃ d', r6power.L0.Pre d' ∧ μ d' < μ d ∧ r6power.L0.add d' (r6power.L0.F d') = r6power.L0.add d (r6power.L0.F d) ∧ ∀ {R : Type} (kn : AS → Option R) (kx : Exit → AS → Option R), lround Tryz.prog r6power.G r6power.an 0 Tryz.f152 0 (r6power.L0.st d) kn kx = kn (r6power.L0.st d')) ∨ (∀ {R : Type} (kn : AS → Option R) (kx : Exit → AS → Option R), lround Tryz.prog r6power.G r6power.an 0 Tryz.f152 0 (r6power.L0.st d) kn kx = kx (r6power.L0.ex0 (r6power.L0.add d (r6power.L0.F d))).1 (r6power.L0.ex0 (r6power.L0.add d (r6power.L0.F d))).2)) : ∀ d, r6power.L0.Pre d → ∃ n, lrun Tryz.prog r6power.G r6power.an 0 Tryz.f152 0 n (r6power.L0.st d) (fun e s => some (e, s)) = (r6power.L0.out (r6power.L0.add d (r6power.L0.F d))).eval := lrun_one (F := fun d => r6power.L0.add d (r6power.L0.F d)) μ h
theorem r6power.L0.step {R : Type} (a_2 : Int) (n_2 : Int) (outv : Int) (kn : AS → Option R) (kx : Exit → AS → Option R) : lround Tryz.prog r6power.G r6power.an 0 Tryz.f152 0 (r6power.L0.st (a_2, n_2, outv)) kn kx =
  sel ((igt n_2 (0 : Int))) (
   sel ((ieq (irem n_2 (2 : Int)) (1 : Int))) (
    obind (r6times.call (outv, a_2)) fun x1 =>
    obind (r6times.call (a_2, a_2)) fun x2 =>
    kn (r6power.L0.st (x2, (iquo .u64 n_2 (2 : Int)), x1))) (
    obind (r6times.call (a_2, a_2)) fun x3 =>
    kn (r6power.L0.st (x3, (iquo .u64 n_2 (2 : Int)), outv)))) (
   kx (r6power.L0.ex0 outv).1 (r6power.L0.ex0 outv).2) := by kernel_rfl
theorem r6power.eq {R : Type} (a : Int) (n : Int) (k : GRes → Option R) : arun Tryz.prog r6power.G r6power.an 0 Tryz.f152 (r6power.st (a, n)).1 (r6power.st (a, n)).2 k =
  obind (r6power.L0.call (a, n, (1 : Int))) fun x4 =>
  k (r6power.out x4) := by kernel_rfl


theorem r6power.L0.ok : ∀ d, r6power.L0.Pre d → ∃ n, lrun Tryz.prog r6power.G r6power.an 0 Tryz.f152 0 n (r6power.L0.st d) (fun e s => some (e, s)) = (r6power.L0.out (r6power.L0.add d (r6power.L0.F d))).eval := by
  refine r6power.L0.byRounds (fun (a, n, o) => n.toNat) ?_
  rintro ⟨a, n, o⟩ ⟨ha, hn, ho⟩
  have ha : Pn a := ha
  have hn : U64 n := hn
  have ho : Pn o := ho
  have n0 := hn.1
  have n1 := hn.2
  by_cases h : 0 < n
  · left
    have e : r6power.L0.F (a, n, o) = r6power.L0.F (mulP a a, n / 2, if n % 2 = 1 then mulP o a else o) := by
      show pwF 64 a n.toNat o = pwF 64 (mulP a a) (n / 2).toNat _
      rw [pwF_more 64 65 a n.toNat o (by omega) (by omega)]
      have t1 : (n / 2).toNat = n.toNat / 2 := by omega
      have t2 : (n % 2 = 1) = (n.toNat % 2 = 1) := by apply propext; omega
      rw [t1]
      simp only [t2]
      show (if n.toNat = 0 then o else _) = _
      rw [if_neg (by omega)]
    refine ⟨(mulP a a, n / 2, if n % 2 = 1 then mulP o a else o), ⟨mulP_ok a a, ⟨by omega, by omega⟩, ?_⟩, by show (n / 2).toNat < n.toNat; omega, ?_, fun kn kx => ?_⟩
    · show Pn (if n % 2 = 1 then mulP o a else o)
      split
      · exact mulP_ok _ _
      · exact ho
    · exact congrArg _ e.symm
    · rw [r6power.L0.step, igt_true h, iquo2 hn, irem_nn n0, r6times.run (d := (o, a)) ⟨ho, ha.u⟩, r6times.run (d := (a, a)) ⟨ha, ha.u⟩]
      by_cases h1 : n % 2 = 1
      · rw [ieq_true h1, if_pos h1]; rfl
      · rw [ieq_false h1, if_neg h1]; rfl
  · right
    intro R kn kx
    obtain rfl : n = 0 := by omega
    rw [r6power.L0.step, igt_false (by omega)]
    simp only [sel_false, r6power.L0.add, r6power.L0.F]
    rw [show pwF 64 a (Int.toNat 0) o = o from pwF_zero _ _ _]
theorem r6power.ok : ∀ d, r6power.Pre d → arun Tryz.prog r6power.G r6power.an 0 Tryz.f152 (r6power.st d).1 (r6power.st d).2 some = some (r6power.out (r6power.add d (r6power.F d))) := by
  rintro ⟨a, n⟩ ⟨ha, hn⟩
  rw [r6power.eq, r6power.L0.run (d := (a, n, 1)) ⟨ha, hn, by omega, by omega⟩]
  rfl

theorem r6power.inj : ∀ d d', r6power.st d = r6power.st d' → d = d' := fun (a, n) (a', n') hEq => by
  have e0 : a = a' := d_inj (t := (.int .u64)) (congrArg (fun s : List AVal × List Ent => (s.1.getD 0 .undef)) hEq)
  have e1 : n = n' := d_inj (t := (.int .u64)) (congrArg (fun s : List AVal × List Ent => (s.1.getD 1 .undef)) hEq)
  rw [e0, e1]
noncomputable def r6power.E : Entry := Entry.of [some (.int .u64), some (.int .u64)] r6power.st r6power.Pre (fun d => r6power.add d (r6power.F d)) r6power.out
noncomputable def r6power.call : r6power.D → Option r6power.X := fun d => r6power.E.run (r6power.st d).1 (r6power.st d).2
theorem r6power.run {d : r6power.D} (h : r6power.Pre d) : r6power.call d = some (r6power.add d (r6power.F d)) := Entry.of_run r6power.inj h
theorem r6power.does : Does Tryz.prog 152 r6power.E := Does.of (by kernel_rfl) (show Sound _ r6power.G from Sound.cons r6times.does (Sound.nil _)) (by kernel_rfl) (by kernel_rfl) (by kernel_rfl) (LOk.fn 1 (by kernel_rfl) (And.intro (LDo.of (by kernel_rfl) r6power.L0.ok) trivial)) r6power.ok

/-! ### corsned/corsnedref06.Right -/
abbrev r6right.D := Int
def r6right.st : r6right.D → List AVal × List Ent := fun p => ([.d (.int .u64) p], [])
abbrev r6right.Y := Bool
abbrev r6right.X := Bool
def r6right.out : r6right.X → GRes := fun x => ⟨.d .bool x, [], []⟩
def r6right.add : r6right.D → r6right.Y → r6right.X := fun p y => y


def r6right.Pre : r6right.D → Prop := fun p => U64 p
def r6right.F : r6right.D → r6right.Y := fun p => isP p

noncomputable def r6right.G : Gam := gcons 152 anyArgs r6power.E (gnil)
noncomputable def r6right.an : Ann := {
  objs := [],
  loops := fun r => { keep := [], sites := [], frz := [], data := [], owns := [] },
  outs := fun r b => { keep := [], sites := [], frz := [], data := [], owns := [] },
  sums := fun r => none,
  owns := [],
  trim := [],
  res := [] }
theorem r6right.eq {R : Type} (p : Int) (k : GRes → Option R) : arun Tryz.prog r6right.G r6right.an 0 Tryz.f118 (r6right.st p).1 (r6right.st p).2 k =
  sel ((ige p (1 : Int))) (
   sel ((ilt p (4611686018427377339 : Int))) (
    obind (r6power.call (p, (2305843009213688669 : Int))) fun x1 =>
    k (r6right.out (ieq x1 (1 : Int)))) (
    k (r6right.out false))) (
   k (r6right.out false)) := by kernel_rfl


theorem r6right.ok : ∀ d, r6right.Pre d → arun Tryz.prog r6right.G r6right.an 0 Tryz.f118 (r6right.st d).1 (r6right.st d).2 some = some (r6right.out (r6right.add d (r6right.F d))) := by
  intro (p : Int) hp
  have hp : U64 p := hp
  rw [r6right.eq]
  simp only [r6right.add, r6right.F, isP]
  by_cases h : 0 < p
  · rw [ige_true (by omega), sel_true]
    by_cases h2 : p < 4611686018427377339
    · rw [ilt_true h2, sel_true, dec_true ⟨h, h2⟩, Bool.true_and, r6power.run (d := (p, 2305843009213688669)) ⟨⟨by omega, h2⟩, by constructor <;> decide⟩]
      rfl
    · rw [ilt_false h2, sel_false, dec_false (fun x => h2 x.2), Bool.false_and]
  · rw [ige_false (by omega), sel_false, dec_false (fun x => h x.1), Bool.false_and]

theorem r6right.inj : ∀ d d', r6right.st d = r6right.st d' → d = d' := fun p p' hEq => by
  have e0 : p = p' := d_inj (t := (.int .u64)) (congrArg (fun s : List AVal × List Ent => (s.1.getD 0 .undef)) hEq)
  rw [e0]
noncomputable def r6right.E : Entry := Entry.of [some (.int .u64)] r6right.st r6right.Pre (fun d => r6right.add d (r6right.F d)) r6right.out
noncomputable def r6right.call : r6right.D → Option r6right.X := fun d => r6right.E.run (r6right.st d).1 (r6right.st d).2
theorem r6right.run {d : r6right.D} (h : r6right.Pre d) : r6right.call d = some (r6right.add d (r6right.F d)) := Entry.of_run r6right.inj h
theorem r6right.does : Does Tryz.prog 118 r6right.E := Does.of (by kernel_rfl) (show Sound _ r6right.G from Sound.cons r6power.does (Sound.nil _)) (by kernel_rfl) (by kernel_rfl) (by kernel_rfl) (LOk.fn 0 (by kernel_rfl) trivial) r6right.ok

/-! ### corsned/corsnedref06.taken -/
abbrev r6taken.D := Int
def r6taken.st : r6taken.D → List AVal × List Ent := fun p => ([.d (.int .u64) p], [])
abbrev r6taken.Y := Int
abbrev r6taken.X := Int
def r6taken.out : r6taken.X → GRes := fun x => ⟨.d (.int .u64) x, [], []⟩
def r6taken.add : r6taken.D → r6taken.Y → r6taken.X := fun p y => y


def r6taken.Pre : r6taken.D → Prop := fun p => U64 p
def r6taken.F : r6taken.D → r6taken.Y := fun p => tk p

noncomputable def r6taken.G : Gam := gcons 118 anyArgs r6right.E (gnil)
noncomputable def r6taken.an : Ann := {
  objs := [],
  loops := fun r => { keep := [], sites := [], frz := [], data := [], owns := [] },
  outs := fun r b => { keep := [], sites := [], frz := [], data := [], owns := [] },
  sums := fun r => none,
  owns := [],
  trim := [],
  res := [] }
theorem r6taken.eq {R : Type} (p : Int) (k : GRes → Option R) : arun Tryz.prog r6taken.G r6taken.an 0 Tryz.f178 (r6taken.st p).1 (r6taken.st p).2 k =
  obind (r6right.call p) fun x1 =>
  sel (x1) (
   k (r6taken.out p)) (
   k (r6taken.out (1 : Int))) := by kernel_rfl


theorem r6taken.ok : ∀ d, r6taken.Pre d → arun Tryz.prog r6taken.G r6taken.an 0 Tryz.f178 (r6taken.st d).1 (r6taken.st d).2 some = some (r6taken.out (r6taken.add d (r6taken.F d))) := by
  intro p hp
  rw [r6taken.eq, r6right.run (d := p) hp]
  simp only [obind_some, r6right.add, r6right.F, r6taken.add, r6taken.F, tk]
  cases isP p <;> rfl

theorem r6taken.inj : ∀ d d', r6taken.st d = r6taken.st d' → d = d' := fun p p' hEq => by
  have e0 : p = p' := d_inj (t := (.int .u64)) (congrArg (fun s : List AVal × List Ent => (s.1.getD 0 .undef)) hEq)
  rw [e0]
noncomputable def r6taken.E : Entry := Entry.of [some (.int .u64)] r6taken.st r6taken.Pre (fun d => r6taken.add d (r6taken.F d)) r6taken.out
noncomputable def r6taken.call : r6taken.D → Option r6taken.X := fun d => r6taken.E.run (r6taken.st d).1 (r6taken.st d).2
theorem r6taken.run {d : r6taken.D} (h : r6taken.Pre d) : r6taken.call d = some (r6taken.add d (r6taken.F d)) := Entry.of_run r6taken.inj h
theorem r6taken.does : Does Tryz.prog 178 r6taken.E := Does.of (by kernel_rfl) (show Sound _ r6taken.G from Sound.cons r6right.does (Sound.nil _)) (by kernel_rfl) (by kernel_rfl) (by kernel_rfl) (LOk.fn 0 (by kernel_rfl) trivial) r6taken.ok

/-! ### corsned/corsnedref06.Scale -/
abbrev r6scale.D := Int × Int
def r6scale.st : r6scale.D → List AVal × List Ent := fun (p, kv) => ([.d (.int .u64) p, .d (.int .u64) kv], [])
abbrev r6scale.Y := Int
abbrev r6scale.X := Int
def r6scale.out : r6scale.X → GRes := fun x => ⟨.d (.int .u64) x, [], []⟩
def r6scale.add : r6scale.D → r6scale.Y → r6scale.X := fun (p, kv) y => y


def r6scale.Pre : r6scale.D → Prop := fun (p, k) => U64 p ∧ U64 k
def r6scale.F : r6scale.D → r6scale.Y := fun (p, k) => scaleP p k

noncomputable def r6scale.G : Gam := gcons 178 anyArgs r6taken.E (gcons 152 anyArgs r6power.E (gnil))
noncomputable def r6scale.an : Ann := {
  objs := [],
  loops := fun r => { keep := [], sites := [], frz := [], data := [], owns := [] },
  outs := fun r b => { keep := [], sites := [], frz := [], data := [], owns := [] },
  sums := fun r => none,
  owns := [],
  trim := [],
  res := [] }
theorem r6scale.eq {R : Type} (p : Int) (kv : Int) (k : GRes → Option R) : arun Tryz.prog r6scale.G r6scale.an 0 Tryz.f179 (r6scale.st (p, kv)).1 (r6scale.st (p, kv)).2 k =
  obind (r6taken.call p) fun x1 =>
  obind (r6power.call (x1, (irem kv (2305843009213688669 : Int)))) fun x2 =>
  k (r6scale.out x2) := by kernel_rfl


theorem r6scale.ok : ∀ d, r6scale.Pre d → arun Tryz.prog r6scale.G r6scale.an 0 Tryz.f179 (r6scale.st d).1 (r6scale.st d).2 some = some (r6scale.out (r6scale.add d (r6scale.F d))) := by
  rintro ⟨p, k⟩ ⟨hp, hk⟩
  have hk : U64 k := hk
  have e := irem_nn (y := 2305843009213688669) hk.1
  have b : U64 (k % 2305843009213688669) := ⟨by omega, by omega⟩
  rw [r6scale.eq, r6taken.run (d := p) hp, e]
  simp only [obind_some, r6taken.add, r6taken.F]
  rw [r6power.run (d := (tk p, k % 2305843009213688669)) ⟨tk_ok p, b⟩]
  rfl

theorem r6scale.inj : ∀ d d', r6scale.st d = r6scale.st d' → d = d' := fun (p, kv) (p', kv') hEq => by
  have e0 : p = p' := d_inj (t := (.int .u64)) (congrArg (fun s : List AVal × List Ent => (s.1.getD 0 .undef)) hEq)
  have e1 : kv = kv' := d_inj (t := (.int .u64)) (congrArg (fun s : List AVal × List Ent => (s.1.getD 1 .undef)) hEq)
  rw [e0, e1]
noncomputable def r6scale.E : Entry := Entry.of [some (.int .u64), some (.int .u64)] r6scale.st r6scale.Pre (fun d => r6scale.add d (r6scale.F d)) r6scale.out
noncomputable def r6scale.call : r6scale.D → Option r6scale.X := fun d => r6scale.E.run (r6scale.st d).1 (r6scale.st d).2
theorem r6scale.run {d : r6scale.D} (h : r6scale.Pre d) : r6scale.call d = some (r6scale.add d (r6scale.F d)) := Entry.of_run r6scale.inj h
theorem r6scale.does : Does Tryz.prog 179 r6scale.E := Does.of (by kernel_rfl) (show Sound _ r6scale.G from Sound.cons r6taken.does (Sound.cons r6power.does (Sound.nil _))) (by kernel_rfl) (by kernel_rfl) (by kernel_rfl) (LOk.fn 0 (by kernel_rfl) trivial) r6scale.ok

/-! ### corsned/corsnedref06.Base -/
abbrev r6base.D := Int
def r6base.st : r6base.D → List AVal × List Ent := fun kv => ([.d (.int .u64) kv], [])
abbrev r6base.Y := Int
abbrev r6base.X := Int
def r6base.out : r6base.X → GRes := fun x => ⟨.d (.int .u64) x, [], []⟩
def r6base.add : r6base.D → r6base.Y → r6base.X := fun kv y => y


def r6base.Pre : r6base.D → Prop := fun k => U64 k
def r6base.F : r6base.D → r6base.Y := fun k => baseP k

noncomputable def r6base.G : Gam := gcons 179 anyArgs r6scale.E (gnil)
noncomputable def r6base.an : Ann := {
  objs := [],
  loops := fun r => { keep := [], sites := [], frz := [], data := [], owns := [] },
  outs := fun r b => { keep := [], sites := [], frz := [], data := [], owns := [] },
  sums := fun r => none,
  owns := [],
  trim := [],
  res := [] }
theorem r6base.eq {R : Type} (kv : Int) (k : GRes → Option R) : arun Tryz.prog r6base.G r6base.an 0 Tryz.f163 (r6base.st kv).1 (r6base.st kv).2 k =
  obind (r6scale.call ((4 : Int), kv)) fun x1 =>
  k (r6base.out x1) := by kernel_rfl


theorem r6base.ok : ∀ d, r6base.Pre d → arun Tryz.prog r6base.G r6base.an 0 Tryz.f163 (r6base.st d).1 (r6base.st d).2 some = some (r6base.out (r6base.add d (r6base.F d))) := by
  intro k hk
  rw [r6base.eq, r6scale.run (d := (4, k)) ⟨⟨by omega, by omega⟩, hk⟩]
  rfl

theorem r6base.inj : ∀ d d', r6base.st d = r6base.st d' → d = d' := fun kv kv' hEq => by
  have e0 : kv = kv' := d_inj (t := (.int .u64)) (congrArg (fun s : List AVal × List Ent => (s.1.getD 0 .undef)) hEq)
  rw [e0]
noncomputable def r6base.E : Entry := Entry.of [some (.int .u64)] r6base.st r6base.Pre (fun d => r6base.add d (r6base.F d)) r6base.out
noncomputable def r6base.call : r6base.D → Option r6base.X := fun d => r6base.E.run (r6base.st d).1 (r6base.st d).2
theorem r6base.run {d : r6base.D} (h : r6base.Pre d) : r6base.call d = some (r6base.add d (r6base.F d)) := Entry.of_run r6base.inj h
theorem r6base.does : Does Tryz.prog 163 r6base.E := Does.of (by kernel_rfl) (show Sound _ r6base.G from Sound.cons r6scale.does (Sound.nil _)) (by kernel_rfl) (by kernel_rfl) (by kernel_rfl) (LOk.fn 0 (by kernel_rfl) trivial) r6base.ok


theorem sum_two (p q : Int) : sumP [p, q] = mulP (tk p) (tk q) := by
  show mulP (mulP 1 (tk p)) (tk q) = _
  have : mulP 1 (tk p) = tk p := by
    have h := tk_ok p
    unfold mulP
    rw [Int.one_mul]
    exact Int.emod_eq_of_lt h.1 h.2
  rw [this]

/-! ### corsned/corsnedref06.Add -/
abbrev r6add.D := Int × Int
def r6add.st : r6add.D → List AVal × List Ent := fun (p, q) => ([.d (.int .u64) p, .d (.int .u64) q], [])
abbrev r6add.Y := Int
abbrev r6add.X := Int
def r6add.out : r6add.X → GRes := fun x => ⟨.d (.int .u64) x, [], []⟩
def r6add.add : r6add.D → r6add.Y → r6add.X := fun (p, q) y => y


def r6add.Pre : r6add.D → Prop := fun (p, q) => U64 p ∧ U64 q
def r6add.F : r6add.D → r6add.Y := fun (p, q) => sumP [p, q]

noncomputable def r6add.G : Gam := gcons 178 anyArgs r6taken.E (gcons 169 anyArgs r6times.E (gnil))
noncomputable def r6add.an : Ann := {
  objs := [],
  loops := fun r => { keep := [], sites := [], frz := [], data := [], owns := [] },
  outs := fun r b => { keep := [], sites := [], frz := [], data := [], owns := [] },
  sums := fun r => none,
  owns := [],
  trim := [],
  res := [] }
theorem r6add.eq {R : Type} (p : Int) (q : Int) (k : GRes → Option R) : arun Tryz.prog r6add.G r6add.an 0 Tryz.f162 (r6add.st (p, q)).1 (r6add.st (p, q)).2 k =
  obind (r6taken.call p) fun x1 =>
  obind (r6taken.call q) fun x2 =>
  obind (r6times.call (x1, x2)) fun x3 =>
  k (r6add.out x3) := by kernel_rfl


theorem r6add.ok : ∀ d, r6add.Pre d → arun Tryz.prog r6add.G r6add.an 0 Tryz.f162 (r6add.st d).1 (r6add.st d).2 some = some (r6add.out (r6add.add d (r6add.F d))) := by
  rintro ⟨p, q⟩ ⟨hp, hq⟩
  rw [r6add.eq, r6taken.run (d := p) hp, r6taken.run (d := q) hq]
  simp only [obind_some, r6taken.add, r6taken.F]
  rw [r6times.run (d := (tk p, tk q)) ⟨tk_ok p, (tk_ok q).u⟩]
  simp only [obind_some, r6times.add, r6times.F, r6add.add, r6add.F, sum_two]

theorem r6add.inj : ∀ d d', r6add.st d = r6add.st d' → d = d' := fun (p, q) (p', q') hEq => by
  have e0 : p = p' := d_inj (t := (.int .u64)) (congrArg (fun s : List AVal × List Ent => (s.1.getD 0 .undef)) hEq)
  have e1 : q = q' := d_inj (t := (.int .u64)) (congrArg (fun s : List AVal × List Ent => (s.1.getD 1 .undef)) hEq)
  rw [e0, e1]
noncomputable def r6add.E : Entry := Entry.of [some (.int .u64), some (.int .u64)] r6add.st r6add.Pre (fun d => r6add.add d (r6add.F d)) r6add.out
noncomputable def r6add.call : r6add.D → Option r6add.X := fun d => r6add.E.run (r6add.st d).1 (r6add.st d).2
theorem r6add.run {d : r6add.D} (h : r6add.Pre d) : r6add.call d = some (r6add.add d (r6add.F d)) := Entry.of_run r6add.inj h
theorem r6add.does : Does Tryz.prog 162 r6add.E := Does.of (by kernel_rfl) (show Sound _ r6add.G from Sound.cons r6taken.does (Sound.cons r6times.does (Sound.nil _))) (by kernel_rfl) (by kernel_rfl) (by kernel_rfl) (LOk.fn 0 (by kernel_rfl) trivial) r6add.ok

end Go.Ab
namespace Go.Ab
open Go.Proofs
set_option maxRecDepth 100000
set_option linter.unusedVariables false
set_option linter.unusedSimpArgs false

/-! ### corsned/corsnedref05.Right -/
abbrev r5right.D := Int
def r5right.st : r5right.D → List AVal × List Ent := fun a => ([.d (.int .u64) a], [])
abbrev r5right.Y := Bool
abbrev r5right.X := Bool
def r5right.out : r5right.X → GRes := fun x => ⟨.d .bool x, [], []⟩
def r5right.add : r5right.D → r5right.Y → r5right.X := fun a y => y


def r5right.Pre : r5right.D → Prop := fun _ => True
def r5right.F : r5right.D → r5right.Y := fun a => ilt a 2305843009213688669

noncomputable def r5right.G : Gam := gnil
noncomputable def r5right.an : Ann := {
  objs := [],
  loops := fun r => { keep := [], sites := [], frz := [], data := [], owns := [] },
  outs := fun r b => { keep := [], sites := [], frz := [], data := [], owns := [] },
  sums := fun r => none,
  owns := [],
  trim := [],
  res := [] }
theorem r5right.eq {R : Type} (a : Int) (k : GRes → Option R) : arun Tryz.prog r5right.G r5right.an 0 Tryz.f161 (r5right.st a).1 (r5right.st a).2 k =
  k (r5right.out (ilt a (2305843009213688669 : Int))) := by kernel_rfl


theorem r5right.ok : ∀ d, r5right.Pre d → arun Tryz.prog r5right.G r5right.an 0 Tryz.f161 (r5right.st d).1 (r5right.st d).2 some = some (r5right.out (r5right.add d (r5right.F d))) := by
  intro a _
  rw [r5right.eq]
  rfl

theorem r5right.inj : ∀ d d', r5right.st d = r5right.st d' → d = d' := fun a a' hEq => by
  have e0 : a = a' := d_inj (t := (.int .u64)) (congrArg (fun s : List AVal × List Ent => (s.1.getD 0 .undef)) hEq)
  rw [e0]
noncomputable def r5right.E : Entry := Entry.of [some (.int .u64)] r5right.st r5right.Pre (fun d => r5right.add d (r5right.F d)) r5right.out
noncomputable def r5right.call : r5right.D → Option r5right.X := fun d => r5right.E.run (r5right.st d).1 (r5right.st d).2
theorem r5right.run {d : r5right.D} (h : r5right.Pre d) : r5right.call d = some (r5right.add d (r5right.F d)) := Entry.of_run r5right.inj h
theorem r5right.does : Does Tryz.prog 161 r5right.E := Does.of (by kernel_rfl) (show Sound _ r5right.G from Sound.nil _) (by kernel_rfl) (by kernel_rfl) (by kernel_rfl) (LOk.fn 0 (by kernel_rfl) trivial) r5right.ok

/-! ### corsned/corsnedref05.From -/
abbrev r5from.L0.D := (List Int) × Int × Int
def r5from.L0.st : r5from.L0.D → AS := fun (h_2, n, i) => ⟨([.undef, .rptr (.arr 32 (.int .u8)) h_2, .undef, .d (.int .u64) n, .d (.int .i64) i] ++ undN 25 []), [], (List.replicate 30 [])⟩
abbrev r5from.L0.Y0 := Int  -- n
abbrev r5from.L0.X0 := Int
def r5from.L0.ex0 : r5from.L0.X0 → Exit × AS := fun x => (.exit 0, ⟨([.undef, .undef, .undef, .d (.int .u64) x] ++ undN 26 []), [], (List.replicate 30 [])⟩)
abbrev r5from.L0.X := r5from.L0.X0
abbrev r5from.L0.Y := r5from.L0.Y0
def r5from.L0.out : r5from.L0.X → Out (Exit × AS) := fun x => .ok (r5from.L0.ex0 x)
def r5from.L0.add : r5from.L0.D → r5from.L0.Y → r5from.L0.X := fun (h_2, n, i) y => y
abbrev r5from.D := (List Int)
def r5from.st : r5from.D → List AVal × List Ent := fun h => ([.d (.arr 32 (.int .u8)) h], [])
abbrev r5from.Y := Int
abbrev r5from.X := Int
def r5from.out : r5from.X → GRes := fun x => ⟨.d (.int .u64) x, [], []⟩
def r5from.add : r5from.D → r5from.Y → r5from.X := fun h y => y


def r5from.L0.Pre : r5from.L0.D → Prop := fun (h, n, i) => From.b n ∧ h.length = 32 ∧ Bytes h ∧ ∃ k : Nat, k ≤ 32 ∧ i = k
def r5from.L0.F : r5from.L0.D → r5from.L0.Y := fun (h, n, i) => (h.drop i.toNat).foldl (fun n b => (n * 256 + b) % 2305843009213688668) n
def r5from.Pre : r5from.D → Prop := fun h => h.length = 32 ∧ Bytes h
def r5from.F : r5from.D → r5from.Y := fun h => fromQ h

noncomputable def r5from.G : Gam := gnil
noncomputable def r5from.L0.E : LEntry := LEntry.of r5from.L0.st r5from.L0.Pre (fun d => r5from.L0.add d (r5from.L0.F d)) r5from.L0.out
noncomputable def r5from.L0.call : r5from.L0.D → Option r5from.L0.X := fun d => r5from.L0.E.run (r5from.L0.st d)
noncomputable def r5from.an : Ann := {
  objs := [],
  loops := fun r => bif Nat.beq r 3 then { keep := [1, 3, 4], sites := [], frz := [], data := [], owns := [] } else bif Nat.beq r 6 then { keep := [1, 3, 4, 5], sites := [], frz := [], data := [], owns := [] } else { keep := [], sites := [], frz := [], data := [], owns := [] },
  outs := fun r b => bif Nat.beq r 3 then (bif b then { keep := [2], sites := [], frz := [], data := [], owns := [] } else { keep := [3], sites := [], frz := [], data := [], owns := [] }) else bif Nat.beq r 6 then (bif b then { keep := [2], sites := [], frz := [], data := [], owns := [] } else { keep := [1, 3, 4], sites := [], frz := [], data := [], owns := [] }) else { keep := [], sites := [], frz := [], data := [], owns := [] },
  sums := fun r => bif Nat.beq r 3 then some r5from.L0.E else none,
  owns := [],
  trim := [],
  res := [] }
theorem r5from.L0.inj : ∀ d d', r5from.L0.st d = r5from.L0.st d' → d = d' := fun (h_2, n, i) (h_2', n', i') hEq => by
  have e0 : h_2 = h_2' := rptr_inj (t := (.arr 32 (.int .u8))) (congrArg (fun s : AS => (s.slot 1)) hEq)
  have e1 : n = n' := d_inj (t := (.int .u64)) (congrArg (fun s : AS => (s.slot 3)) hEq)
  have e2 : i = i' := d_inj (t := (.int .i64)) (congrArg (fun s : AS => (s.slot 4)) hEq)
  rw [e0, e1, e2]
theorem r5from.L0.run {d : r5from.L0.D} (h : r5from.L0.Pre d) : r5from.L0.call d = some (r5from.L0.add d (r5from.L0.F d)) := LEntry.of_run r5from.L0.inj h
theorem r5from.L0.byRounds (μ : r5from.L0.D → Nat) (h : ∀ d, r5from.L0.Pre d → (∃ d', r5from.L0.Pre d' ∧ μ d' < μ d ∧ r5from.L0.add d' (r5from.L0.F d') = r5from.L0.add d (r5from.L0.F d) ∧ ∀ {R : Type} (kn : AS → Option R) (kx : Exit → AS → Option R), lround Tryz.prog r5from.G r5from.an 12 Tryz.f137 0 (r5from.L0.st d) kn kx = kn (r5from.L0.st d')) ∨ (∀ {R : Type} (kn : AS → Option R) (kx : Exit → AS → Option R), lround Tryz.prog r5from.G r5from.an 12 Tryz.f137 0 (r5from.L0.st d) kn kx = kx (r5from.L0.ex0 (r5from.L0.add d (r5from.L0.F d))).1 (r5from.L0.ex0 (r5from.L0.add d (r5from.L0.F d))).2)) : ∀ d, r5from.L0.Pre d → ∃ n, lrun Tryz.prog r5from.G r5from.an 12 Tryz.f137 0 n (r5from.L0.st d) (fun e s => some (e, s)) = (r5from.L0.out (r5from.L0.add d (r5from.L0.F d))).eval := lrun_one (F := fun d => r5from.L0.add d (r5from.L0.F d)) μ h
theorem r5from.L0.step {R : Type} (h_2 : (List Int)) (n : Int) (i : Int) (kn : AS → Option R) (kx : Exit → AS → Option R) : lround Tryz.prog r5from.G r5from.an 12 Tryz.f137 0 (r5from.L0.st (h_2, n, i)) kn kx =
  sel ((ilt i (32 : Int))) (
   sel (inb i (32 : Int)) (
   sel (inb i (32 : Int)) (
   sel (inb i (32 : Int)) (
   sel (inb i (32 : Int)) (
   sel (inb i (32 : Int)) (
   sel (inb i (32 : Int)) (
   sel (inb i (32 : Int)) (
   sel (inb i (32 : Int)) (
   kn (r5from.L0.st (h_2, (irem (iadd .u64 (imul .u64 (2 : Int) (irem (iadd .u64 (imul .u64 (2 : Int) (irem (iadd .u64 (imul .u64 (2 : Int) (irem (iadd .u64 (imul .u64 (2 : Int) (irem (iadd .u64 (imul .u64 (2 : Int) (irem (iadd .u64 (imul .u64 (2 : Int) (irem (iadd .u64 (imul .u64 (2 : Int) (irem (iadd .u64 (imul .u64 (2 : Int) n) (bitop .and .u64 (ishr .u64 (icv .u64 (nth (.int .u8) h_2 (Int.toNat i))) (7 : Int)) (1 : Int))) (2305843009213688668 : Int))) (bitop .and .u64 (ishr .u64 (icv .u64 (nth (.int .u8) h_2 (Int.toNat i))) (6 : Int)) (1 : Int))) (2305843009213688668 : Int))) (bitop .and .u64 (ishr .u64 (icv .u64 (nth (.int .u8) h_2 (Int.toNat i))) (5 : Int)) (1 : Int))) (2305843009213688668 : Int))) (bitop .and .u64 (ishr .u64 (icv .u64 (nth (.int .u8) h_2 (Int.toNat i))) (4 : Int)) (1 : Int))) (2305843009213688668 : Int))) (bitop .and .u64 (ishr .u64 (icv .u64 (nth (.int .u8) h_2 (Int.toNat i))) (3 : Int)) (1 : Int))) (2305843009213688668 : Int))) (bitop .and .u64 (ishr .u64 (icv .u64 (nth (.int .u8) h_2 (Int.toNat i))) (2 : Int)) (1 : Int))) (2305843009213688668 : Int))) (bitop .and .u64 (ishr .u64 (icv .u64 (nth (.int .u8) h_2 (Int.toNat i))) (1 : Int)) (1 : Int))) (2305843009213688668 : Int))) (bitop .and .u64 (ishr .u64 (icv .u64 (nth (.int .u8) h_2 (Int.toNat i))) (0 : Int)) (1 : Int))) (2305843009213688668 : Int)), (iadd .i64 i (1 : Int))))) none) none) none) none) none) none) none) none) (
   kx (r5from.L0.ex0 n).1 (r5from.L0.ex0 n).2) := by kernel_rfl
theorem r5from.eq {R : Type} (h : (List Int)) (k : GRes → Option R) : arun Tryz.prog r5from.G r5from.an 12 Tryz.f137 (r5from.st h).1 (r5from.st h).2 k =
  obind (r5from.L0.call (h, (0 : Int), (0 : Int))) fun x1 =>
  k (r5from.out (iadd .u64 x1 (1 : Int))) := by kernel_rfl


theorem bit_at {c : Int} (hc : Byte c) (k : Nat) (hk : k ≤ 7) : bitop .and .u64 (ishr .u64 (icv .u64 c) (k : Int)) 1 = c / 2 ^ k % 2 := by
  obtain ⟨h1, h2⟩ := hc
  have e : icv .u64 c = c := by rw [icv_um]; omega
  have p : (0 : Int) < 2 ^ k := Int.pow_pos (by omega)
  have q0 : 0 ≤ c / 2 ^ k := Int.ediv_nonneg h1 (by omega)
  have q1 : c / 2 ^ k ≤ c := Int.ediv_le_self _ h1
  rw [e, shr_u64 k (by rfl) (by omega), and1 q0 (by omega)]
theorem bits_fin : ∀ c : Fin 256, (c.val : Int) / 2 ^ 7 % 2 * 128 + (c.val : Int) / 2 ^ 6 % 2 * 64 + (c.val : Int) / 2 ^ 5 % 2 * 32 + (c.val : Int) / 2 ^ 4 % 2 * 16 + (c.val : Int) / 2 ^ 3 % 2 * 8 + (c.val : Int) / 2 ^ 2 % 2 * 4 + (c.val : Int) / 2 ^ 1 % 2 * 2 + (c.val : Int) / 2 ^ 0 % 2 = (c.val : Int) := by decide +kernel
theorem bits_sum {c : Int} (hc : Byte c) : c / 2 ^ 7 % 2 * 128 + c / 2 ^ 6 % 2 * 64 + c / 2 ^ 5 % 2 * 32 + c / 2 ^ 4 % 2 * 16 + c / 2 ^ 3 % 2 * 8 + c / 2 ^ 2 % 2 * 4 + c / 2 ^ 1 % 2 * 2 + c / 2 ^ 0 % 2 = c := by
  obtain ⟨n, rfl⟩ : ∃ n : Nat, c = n := ⟨c.toNat, by have := hc.1; omega⟩
  exact bits_fin ⟨n, by have := hc.2; omega⟩
theorem byte_bits {c : Int} (hc : Byte c) : ∃ d7 d6 d5 d4 d3 d2 d1 d0 : Int, (0 ≤ d7 ∧ d7 < 2) ∧ (0 ≤ d6 ∧ d6 < 2) ∧ (0 ≤ d5 ∧ d5 < 2) ∧ (0 ≤ d4 ∧ d4 < 2) ∧ (0 ≤ d3 ∧ d3 < 2) ∧ (0 ≤ d2 ∧ d2 < 2) ∧ (0 ≤ d1 ∧ d1 < 2) ∧ (0 ≤ d0 ∧ d0 < 2) ∧ bitop .and .u64 (ishr .u64 (icv .u64 c) 7) 1 = d7 ∧ bitop .and .u64 (ishr .u64 (icv .u64 c) 6) 1 = d6 ∧ bitop .and .u64 (ishr .u64 (icv .u64 c) 5) 1 = d5 ∧ bitop .and .u64 (ishr .u64 (icv .u64 c) 4) 1 = d4 ∧ bitop .and .u64 (ishr .u64 (icv .u64 c) 3) 1 = d3 ∧ bitop .and .u64 (ishr .u64 (icv .u64 c) 2) 1 = d2 ∧ bitop .and .u64 (ishr .u64 (icv .u64 c) 1) 1 = d1 ∧ bitop .and .u64 (ishr .u64 (icv .u64 c) 0) 1 = d0 ∧ d7 * 128 + d6 * 64 + d5 * 32 + d4 * 16 + d3 * 8 + d2 * 4 + d1 * 2 + d0 = c := by
  have z : ∀ x : Int, 0 ≤ x % 2 ∧ x % 2 < 2 := fun x => by omega
  exact ⟨c / 2 ^ 7 % 2, c / 2 ^ 6 % 2, c / 2 ^ 5 % 2, c / 2 ^ 4 % 2, c / 2 ^ 3 % 2, c / 2 ^ 2 % 2, c / 2 ^ 1 % 2, c / 2 ^ 0 % 2, z _, z _, z _, z _, z _, z _, z _, z _, bit_at hc 7 (by omega), bit_at hc 6 (by omega), bit_at hc 5 (by omega), bit_at hc 4 (by omega), bit_at hc 3 (by omega), bit_at hc 2 (by omega), bit_at hc 1 (by omega), bit_at hc 0 (by omega), bits_sum hc⟩
theorem bit_in {n b : Int} (hn : From.b n) (hb : 0 ≤ b ∧ b < 2) : irem (iadd .u64 (imul .u64 2 n) b) 2305843009213688668 = (2 * n + b) % 2305843009213688668 ∧ From.b ((2 * n + b) % 2305843009213688668) := by
  obtain ⟨h1, h2⟩ := hn
  have e : iadd .u64 (imul .u64 2 n) b = 2 * n + b := by rw [imul_um, iadd_um]; omega
  rw [e, irem_nn (by omega)]
  exact ⟨rfl, by omega, by omega⟩
theorem eight_bits (n c d7 d6 d5 d4 d3 d2 d1 d0 : Int) (M : Int) (h : d7 * 128 + d6 * 64 + d5 * 32 + d4 * 16 + d3 * 8 + d2 * 4 + d1 * 2 + d0 = c) :
    (2 * ((2 * ((2 * ((2 * ((2 * ((2 * ((2 * ((2 * n + d7) % M) + d6) % M) + d5) % M) + d4) % M) + d3) % M) + d2) % M) + d1) % M) + d0) % M = (n * 256 + c) % M := by
  have l : ∀ x b : Int, (2 * (x % M) + b) % M = (2 * x + b) % M := fun x b => by
    rw [Int.add_emod, Int.mul_emod, Int.emod_emod_of_dvd _ (Int.dvd_refl M), ← Int.mul_emod, ← Int.add_emod]
  simp only [l]
  have e : 2 * (2 * (2 * (2 * (2 * (2 * (2 * (2 * n + d7) + d6) + d5) + d4) + d3) + d2) + d1) + d0 = n * 256 + c := by omega
  rw [e]
theorem r5from.L0.ok : ∀ d, r5from.L0.Pre d → ∃ n, lrun Tryz.prog r5from.G r5from.an 12 Tryz.f137 0 n (r5from.L0.st d) (fun e s => some (e, s)) = (r5from.L0.out (r5from.L0.add d (r5from.L0.F d))).eval := by
  refine r5from.L0.byRounds (fun (h, n, i) => 32 - i.toNat) ?_
  rintro ⟨h, n, i⟩ ⟨hn, hl, hb, k, hk, rfl⟩
  have hn : From.b n := hn
  have hl : h.length = 32 := hl
  have hb : Bytes h := hb
  by_cases hlt : k < 32
  · left
    have hx : Byte (h[k]'(by omega)) := hb _ (List.getElem_mem _)
    have n1 : nth (.int .u8) h k = h[k]'(by omega) := nth_lt (t := .int .u8) (by omega)
    refine ⟨(h, (n * 256 + h[k]'(by omega)) % 2305843009213688668, ((k + 1 : Nat) : Int)), ⟨⟨by omega, by omega⟩, hl, hb, k + 1, by omega, rfl⟩, by simp only [Int.toNat_natCast]; omega, ?_, fun kn kx => ?_⟩
    · simp only [r5from.L0.add, r5from.L0.F, Int.toNat_natCast]
      rw [List.drop_eq_getElem_cons (by omega : k < h.length)]
      rfl
    · rw [r5from.L0.step]
      generalize hc : h[k]'(by omega) = c at hx n1
      obtain ⟨d7, d6, d5, d4, d3, d2, d1, d0, z7, z6, z5, z4, z3, z2, z1, z0, b7, b6, b5, b4, b3, b2, b1, b0, hsum⟩ := byte_bits hx
      obtain ⟨f7, g7⟩ := bit_in hn z7
      obtain ⟨f6, g6⟩ := bit_in g7 z6
      obtain ⟨f5, g5⟩ := bit_in g6 z5
      obtain ⟨f4, g4⟩ := bit_in g5 z4
      obtain ⟨f3, g3⟩ := bit_in g4 z3
      obtain ⟨f2, g2⟩ := bit_in g3 z2
      obtain ⟨f1, g1⟩ := bit_in g2 z1
      obtain ⟨f0, g0⟩ := bit_in g1 z0
      have e8 := eight_bits n c _ _ _ _ _ _ _ _ 2305843009213688668 hsum
      have hi : ilt (k : Int) 32 = true := ilt_true (by omega)
      have hib : inb (k : Int) 32 = true := inb_true (by omega) (by omega)
      have ha : iadd .i64 (k : Int) 1 = ((k + 1 : Nat) : Int) := by rw [iadd_i64 (by omega) (by omega)]; omega
      simp only [hi, hib, ha, sel_true, Int.toNat_natCast, n1, b7, b6, b5, b4, b3, b2, b1, b0, f7, f6, f5, f4, f3, f2, f1, f0, e8]
  · right
    obtain rfl : k = 32 := by omega
    intro R kn kx
    rw [r5from.L0.step]
    simp (disch := omega) only [↓N.lt, ↓N.le, ↓N.gt, ↓N.ge, ↓N.eq, ↓N.ne, ↓N.ib, ↓N.ic, ↓N.nn, ↓N.nz, ↓N.dc, ↓N.rm, ↓N.an, ↓N.or, ↓N.no, ↓if_pos, ↓if_neg, ↓sel_true, ↓sel_false, ↓obind_some, if_pos, if_neg, obind_some, N.aNN, N.aNL, N.aLN, N.sNN, N.sNL, N.sLN, N.mNN, N.mNL, N.mLN, N.qNN, N.qNL, N.rNN, N.rNL, N.cN, N.cL, N.tL, Int.toNat_natCast, if_true, if_false, and_self, true_and, and_true, r5from.L0.add, r5from.L0.F]
    rw [List.drop_of_length_le (by omega)]
    rfl
theorem r5from.ok : ∀ d, r5from.Pre d → arun Tryz.prog r5from.G r5from.an 12 Tryz.f137 (r5from.st d).1 (r5from.st d).2 some = some (r5from.out (r5from.add d (r5from.F d))) := by
  rintro h ⟨hl, hb⟩
  have e := fromF_ok h 0 ⟨by omega, by omega⟩
  have h1 := e.1
  have h2 := e.2
  rw [r5from.eq, r5from.L0.run (d := (h, 0, 0)) ⟨⟨by omega, by omega⟩, hl, hb, 0, by omega, rfl⟩]
  simp only [obind_some, r5from.L0.add, r5from.L0.F, r5from.add, r5from.F, fromQ, Int.toNat_zero, List.drop_zero]
  revert h1 h2
  generalize h.foldl (fun n b => (n * 256 + b) % 2305843009213688668) 0 = m
  intro h1 h2
  have e : iadd .u64 m 1 = m + 1 := by rw [iadd_um]; omega
  rw [e]

theorem r5from.inj : ∀ d d', r5from.st d = r5from.st d' → d = d' := fun h h' hEq => by
  have e0 : h = h' := d_inj (t := (.arr 32 (.int .u8))) (congrArg (fun s : List AVal × List Ent => (s.1.getD 0 .undef)) hEq)
  rw [e0]
noncomputable def r5from.E : Entry := Entry.of [some (.arr 32 (.int .u8))] r5from.st r5from.Pre (fun d => r5from.add d (r5from.F d)) r5from.out
noncomputable def r5from.call : r5from.D → Option r5from.X := fun d => r5from.E.run (r5from.st d).1 (r5from.st d).2
theorem r5from.run {d : r5from.D} (h : r5from.Pre d) : r5from.call d = some (r5from.add d (r5from.F d)) := Entry.of_run r5from.inj h
theorem r5from.does : Does Tryz.prog 137 r5from.E := Does.of (by kernel_rfl) (show Sound _ r5from.G from Sound.nil _) (by kernel_rfl) (by kernel_rfl) (by kernel_rfl) (LOk.fn 2 (by kernel_rfl) (And.intro (LDo.of (by kernel_rfl) r5from.L0.ok) (And.intro (LDo.none (by kernel_rfl)) trivial))) r5from.ok

end Go.Ab
namespace Go.Ab
open Go.Proofs
set_option maxRecDepth 100000
set_option linter.unusedVariables false
set_option linter.unusedSimpArgs false

/-! ### corsned/corsnedref07.eight -/
abbrev r7eight.D := Int
def r7eight.st : r7eight.D → List AVal × List Ent := fun p => ([.d (.int .u64) p], [])
abbrev r7eight.Y := (List Int)
abbrev r7eight.X := (List Int)
def r7eight.out : r7eight.X → GRes := fun x => ⟨.d (.slice (.int .u8)) x, [], []⟩
def r7eight.add : r7eight.D → r7eight.Y → r7eight.X := fun p y => y


def r7eight.Pre : r7eight.D → Prop := fun n => U64 n
def r7eight.F : r7eight.D → r7eight.Y := fun n => be8 n

noncomputable def r7eight.G : Gam := gcons 122 anyArgs rlong.E (gnil)
noncomputable def r7eight.an : Ann := {
  objs := [],
  loops := fun r => { keep := [], sites := [], frz := [], data := [], owns := [] },
  outs := fun r b => { keep := [], sites := [], frz := [], data := [], owns := [] },
  sums := fun r => none,
  owns := [],
  trim := [],
  res := [some (.slice (.int .u8))] }
theorem r7eight.eq {R : Type} (p : Int) (k : GRes → Option R) : arun Tryz.prog r7eight.G r7eight.an 0 Tryz.f180 (r7eight.st p).1 (r7eight.st p).2 k =
  obind (rlong.call p) fun x1 =>
  sel (decide (0 = 0 ∧ (0 + x1.1) ≤ (List.length x1.2))) (
  k (r7eight.out (cut x1.2 0 x1.1))) none := by kernel_rfl


theorem r7eight.ok : ∀ d, r7eight.Pre d → arun Tryz.prog r7eight.G r7eight.an 0 Tryz.f180 (r7eight.st d).1 (r7eight.st d).2 some = some (r7eight.out (r7eight.add d (r7eight.F d))) := by
  intro n hn
  rw [r7eight.eq, rlong.run (d := n) hn]
  simp only [obind_some, rlong.add, rlong.F, be8_length, Nat.zero_add, Nat.le_refl, and_self, decide_true, sel_true]
  rw [cut_len (be8_length _)]
  rfl

theorem r7eight.inj : ∀ d d', r7eight.st d = r7eight.st d' → d = d' := fun p p' hEq => by
  have e0 : p = p' := d_inj (t := (.int .u64)) (congrArg (fun s : List AVal × List Ent => (s.1.getD 0 .undef)) hEq)
  rw [e0]
noncomputable def r7eight.E : Entry := Entry.of [some (.int .u64)] r7eight.st r7eight.Pre (fun d => r7eight.add d (r7eight.F d)) r7eight.out
noncomputable def r7eight.call : r7eight.D → Option r7eight.X := fun d => r7eight.E.run (r7eight.st d).1 (r7eight.st d).2
theorem r7eight.run {d : r7eight.D} (h : r7eight.Pre d) : r7eight.call d = some (r7eight.add d (r7eight.F d)) := Entry.of_run r7eight.inj h
theorem r7eight.does : Does Tryz.prog 180 r7eight.E := Does.of (by kernel_rfl) (show Sound _ r7eight.G from Sound.cons rlong.does (Sound.nil _)) (by kernel_rfl) (by kernel_rfl) (by kernel_rfl) (LOk.fn 0 (by kernel_rfl) trivial) r7eight.ok

/-! ### corsned/corsnedref07.challenge -/
abbrev r7chall.D := Int × Int × (List Int)
def r7chall.st : r7chall.D → List AVal × List Ent := fun (r, p, m) => ([.d (.int .u64) r, .d (.int .u64) p, .d (.arr 32 (.int .u8)) m], [])
abbrev r7chall.Y := Int
abbrev r7chall.X := Int
def r7chall.out : r7chall.X → GRes := fun x => ⟨.d (.int .u64) x, [], []⟩
def r7chall.add : r7chall.D → r7chall.Y → r7chall.X := fun (r, p, m) y => y


def r7chall.Pre : r7chall.D → Prop := fun (r, p, m) => U64 r ∧ U64 p ∧ Sm m
def r7chall.F : r7chall.D → r7chall.Y := fun (r, p, m) => chalQ r p m

noncomputable def r7chall.G : Gam := gcons 180 anyArgs r7eight.E (gcons 73 anyArgs rtag.E (gcons 137 anyArgs r5from.E (gnil)))
noncomputable def r7chall.an : Ann := {
  objs := [],
  loops := fun r => { keep := [], sites := [], frz := [], data := [], owns := [] },
  outs := fun r b => { keep := [], sites := [], frz := [], data := [], owns := [] },
  sums := fun r => none,
  owns := [],
  trim := [],
  res := [] }
theorem r7chall.eq {R : Type} (r : Int) (p : Int) (m : (List Int)) (k : GRes → Option R) : arun Tryz.prog r7chall.G r7chall.an 0 Tryz.f164 (r7chall.st (r, p, m)).1 (r7chall.st (r, p, m)).2 k =
  obind (r7eight.call r) fun x1 =>
  obind (r7eight.call p) fun x2 =>
  obind (rtag.call ((⟨#[115, 105, 103]⟩ : ByteArray), [x1, x2, (cut m 0 32)])) fun x3 =>
  obind (r5from.call x3) fun x4 =>
  k (r7chall.out x4) := by kernel_rfl


theorem r7chall.ok : ∀ d, r7chall.Pre d → arun Tryz.prog r7chall.G r7chall.an 0 Tryz.f164 (r7chall.st d).1 (r7chall.st d).2 some = some (r7chall.out (r7chall.add d (r7chall.F d))) := by
  rintro ⟨r, p, m⟩ ⟨hr, hp, hm⟩
  have hm : Sm m := hm
  have hp3 : rtag.Pre ((⟨#[115, 105, 103]⟩ : ByteArray), [be8 r, be8 p, m]) := tag_pre3 (by decide) (by rw [be8_length]; omega) (by rw [be8_length]; omega) (by rw [hm.1]; omega)
  rw [r7chall.eq, r7eight.run (d := r) hr, r7eight.run (d := p) hp]
  simp only [obind_some, r7eight.add, r7eight.F]
  rw [cut_len hm.1, rtag.run hp3]
  simp only [obind_some, rtag.add, rtag.F]
  rw [r5from.run (d := tag (bytesOfStr (⟨#[115, 105, 103]⟩ : ByteArray)) [be8 r, be8 p, m]) (sm_tag _ _)]
  rfl

theorem r7chall.inj : ∀ d d', r7chall.st d = r7chall.st d' → d = d' := fun (r, p, m) (r', p', m') hEq => by
  have e0 : r = r' := d_inj (t := (.int .u64)) (congrArg (fun s : List AVal × List Ent => (s.1.getD 0 .undef)) hEq)
  have e1 : p = p' := d_inj (t := (.int .u64)) (congrArg (fun s : List AVal × List Ent => (s.1.getD 1 .undef)) hEq)
  have e2 : m = m' := d_inj (t := (.arr 32 (.int .u8))) (congrArg (fun s : List AVal × List Ent => (s.1.getD 2 .undef)) hEq)
  rw [e0, e1, e2]
noncomputable def r7chall.E : Entry := Entry.of [some (.int .u64), some (.int .u64), some (.arr 32 (.int .u8))] r7chall.st r7chall.Pre (fun d => r7chall.add d (r7chall.F d)) r7chall.out
noncomputable def r7chall.call : r7chall.D → Option r7chall.X := fun d => r7chall.E.run (r7chall.st d).1 (r7chall.st d).2
theorem r7chall.run {d : r7chall.D} (h : r7chall.Pre d) : r7chall.call d = some (r7chall.add d (r7chall.F d)) := Entry.of_run r7chall.inj h
theorem r7chall.does : Does Tryz.prog 164 r7chall.E := Does.of (by kernel_rfl) (show Sound _ r7chall.G from Sound.cons r7eight.does (Sound.cons rtag.does (Sound.cons r5from.does (Sound.nil _)))) (by kernel_rfl) (by kernel_rfl) (by kernel_rfl) (LOk.fn 0 (by kernel_rfl) trivial) r7chall.ok


/-- The document's own equation. -/
def holdsL (p : Int) (m : List Int) (t : Int) (s : Sg) : Bool :=
  if isP p = false ∨ isP t = false ∨ isP s.1 = false ∨ ¬ s.2.1 < 2305843009213688669 ∨ p = 1 then false
  else decide (sumP [baseP s.2.1, t] = sumP [s.1, scaleP p (chalQ s.1 p m)])
theorem holds_checks (p : Int) (m : List Int) (s : Sg) : holdsL p m 1 s = checks p m 1 s := by
  unfold holdsL checks
  by_cases h : p = 1 ∨ isP p = false ∨ isP 1 = false ∨ isP s.1 = false ∨ ¬ s.2.1 < 2305843009213688669
  · rw [if_pos h, if_pos (by rcases h with h | h | h | h | h <;> simp [h])]
  · rw [if_neg h, if_neg (by
      intro h'
      apply h
      rcases h' with h' | h' | h' | h' | h' <;> simp [h'])]
    have e := checks_eq s.1 (scaleP p (chalQ s.1 p m)) s.2.1
    by_cases h2 : baseP s.2.1 = sumP [s.1, scaleP p (chalQ s.1 p m), negP 1]
    · rw [decide_eq_true h2, decide_eq_true (e ▸ h2)]
    · rw [decide_eq_false h2, decide_eq_false (e ▸ h2)]

end Go.Ab
