/-
  Made by a program of mine (wip/gen), and by hand.
-/
import Derived.Test.YtglpcfdjdabdnaaLw3
import Derived.Test.YtglpcfdjdabdnaaLb1
namespace Go.Ab
open Go.Proofs
set_option maxRecDepth 100000
set_option linter.unusedVariables false
set_option linter.unusedSimpArgs false

/-! ### corsned/corsnedlaw12.LockLaid -/
abbrev locklaid.L0.D := (List Int) × Int × Int × Bool × Int × ((List ((List Int) × (Int × (Int × (Int × Unit))))) × Unit) × ((List Int) × (Bool × Unit))
def locklaid.L0.st : locklaid.L0.D → AS := fun (keys_2, after_2, delay_2, head, i, n8, n42) => ⟨([.d (.slice (.int .u64)) keys_2, .d (.int .u16) after_2, .d (.int .u16) delay_2] ++ undN 4 ([.d .bool head, .ptr (.new 8 0) 0 [] 0, .ptr (.new 42 0) 0 [] 0, .d (.int .i64) i] ++ undN 97 [])), [], (nilN 8 ([[.obj 0 false (.d (.pair (.slice (.pair (.slice (.int .u64)) (.pair (.int .i64) (.pair (.int .i64) (.pair (.int .u64) .unit))))) .unit) n8)]] ++ nilN 33 ([[.obj 0 false (.d (.pair (.slice (.int .u8)) (.pair .bool .unit)) n42)]] ++ nilN 65 [])))⟩
abbrev locklaid.L0.Y0 := Unit
abbrev locklaid.L0.X0 := Unit
def locklaid.L0.ex0 : locklaid.L0.X0 → Exit × AS := fun x => (.ret, ⟨(undN 6 ([.d .bool false] ++ undN 101 [])), [], (List.replicate 108 [])⟩)
abbrev locklaid.L0.Y1 := ((List Int) × (Bool × Unit))  -- n42
abbrev locklaid.L0.X1 := (Int × Int × Bool × ((List ((List Int) × (Int × (Int × (Int × Unit))))) × Unit)) × (((List Int) × (Bool × Unit)))
def locklaid.L0.ex1 : locklaid.L0.X1 → Exit × AS := fun x => (.exit 0, ⟨([.undef, .d (.int .u16) x.1.1, .d (.int .u16) x.1.2.1] ++ undN 4 ([.d .bool x.1.2.2.1, .ptr (.new 8 0) 0 [] 0, .ptr (.new 42 0) 0 [] 0] ++ undN 98 [])), [], (nilN 8 ([[.obj 0 false (.d (.pair (.slice (.pair (.slice (.int .u64)) (.pair (.int .i64) (.pair (.int .i64) (.pair (.int .u64) .unit))))) .unit) x.1.2.2.2)]] ++ nilN 33 ([[.obj 0 false (.d (.pair (.slice (.int .u8)) (.pair .bool .unit)) x.2)]] ++ nilN 65 [])))⟩)
abbrev locklaid.L0.X := (locklaid.L0.X0) ⊕ (locklaid.L0.X1)
abbrev locklaid.L0.Y := (locklaid.L0.Y0) ⊕ (locklaid.L0.Y1)
def locklaid.L0.out : locklaid.L0.X → Out (Exit × AS) := fun x => .br x.isLeft (.get x.getLeft? fun a => .ok (locklaid.L0.ex0 a)) (.get x.getRight? fun b => .ok (locklaid.L0.ex1 b))
def locklaid.L0.add : locklaid.L0.D → locklaid.L0.Y → locklaid.L0.X := fun (keys_2, after_2, delay_2, head, i, n8, n42) y => match y with | .inl y => .inl y | .inr z => .inr (((after_2, delay_2, head, n8), z))
abbrev locklaid.JR3.X := (List Int) × Int × Int × Bool × Bool × ((List ((List Int) × (Int × (Int × (Int × Unit))))) × Unit)
def locklaid.JR3.st : locklaid.JR3.X → AS := fun (keys, after, delay, head, t27, n8) => ⟨([.d (.slice (.int .u64)) keys, .d (.int .u16) after, .d (.int .u16) delay] ++ undN 4 ([.d .bool head, .ptr (.new 8 0) 0 [] 0] ++ undN 18 ([.d .bool t27] ++ undN 80 []))), [], (nilN 8 ([[.obj 0 false (.d (.pair (.slice (.pair (.slice (.int .u64)) (.pair (.int .i64) (.pair (.int .i64) (.pair (.int .u64) .unit))))) .unit) n8)]] ++ nilN 99 []))⟩
noncomputable def locklaid.JR3.J : Join := Join.of { keep := [0, 1, 2, 7, 8, 27], sites := [8], frz := [], data := [], owns := [] } locklaid.JR3.st
noncomputable def locklaid.JR3.fin : locklaid.JR3.X → Option locklaid.JR3.X := fun x => (locklaid.JR3.J).inn .normal (locklaid.JR3.st x)
theorem locklaid.JR3.inj : ∀ d d', locklaid.JR3.st d = locklaid.JR3.st d' → d = d' := fun (keys, after, delay, head, t27, n8) (keys', after', delay', head', t27', n8') hEq => by
  have e0 : keys = keys' := d_inj (t := (.slice (.int .u64))) (congrArg (fun s : AS => (s.slot 0)) hEq)
  have e1 : after = after' := d_inj (t := (.int .u16)) (congrArg (fun s : AS => (s.slot 1)) hEq)
  have e2 : delay = delay' := d_inj (t := (.int .u16)) (congrArg (fun s : AS => (s.slot 2)) hEq)
  have e3 : head = head' := d_inj (t := .bool) (congrArg (fun s : AS => (s.slot 7)) hEq)
  have e4 : t27 = t27' := d_inj (t := .bool) (congrArg (fun s : AS => (s.slot 27)) hEq)
  have e5 : n8 = n8' := d_inj (t := (.pair (.slice (.pair (.slice (.int .u64)) (.pair (.int .i64) (.pair (.int .i64) (.pair (.int .u64) .unit))))) .unit)) (congrArg (fun s : AS => (entC (s.ent (.new 8 0)))) hEq)
  rw [e0, e1, e2, e3, e4, e5]
theorem locklaid.JR3.fin_eq (x : locklaid.JR3.X) : locklaid.JR3.fin x = some x := Join.of_inn locklaid.JR3.inj x
abbrev locklaid.D := (List Int) × Int × Int
def locklaid.st : locklaid.D → List AVal × List Ent := fun (keys, after, delay) => ([.d (.slice (.int .u64)) keys, .d (.int .u16) after, .d (.int .u16) delay], [])
abbrev locklaid.Y := Bool
abbrev locklaid.X := Bool
def locklaid.out : locklaid.X → GRes := fun x => ⟨.d .bool x, [], []⟩
def locklaid.add : locklaid.D → locklaid.Y → locklaid.X := fun (keys, after, delay) y => y


def locklaid.L0.Pre : locklaid.L0.D → Prop := fun (ks, af, dl, hd, i, l, r) => KeysU ks ∧ ks.length ≤ 12 ∧ RdrB r ∧ ∃ (k : Nat) (rest : List Int), k ≤ ks.length ∧ i = k ∧ r = ((ks.drop k).flatMap be8 ++ rest, false, ())
def locklaid.L0.F : locklaid.L0.D → locklaid.L0.Y := fun (ks, af, dl, hd, i, l, r) => .inr (r.1.drop (8 * (ks.length - i.toNat)), r.2)
def U16' (x : Int) : Prop := 0 ≤ x ∧ x < 65536
def locklaid.Pre : locklaid.D → Prop := fun (ks, af, dl) => KeysU ks ∧ U16' af ∧ U16' dl
def locklaid.F : locklaid.D → locklaid.Y := fun _ => true

noncomputable def locklaid.G : Gam := gcons 8 anyArgs small12.E (gcons 14 anyArgs lright.E (gcons 21 anyArgs lbytes.E (gcons 22 anyArgs ropen.E (gcons 23 anyArgs rnum.E (gcons 24 anyArgs ru64.E (gcons 25 anyArgs rleft.E (gcons 26 anyArgs rokk.E (gcons 27 anyArgs lsum.E (gcons 28 anyArgs htag.E (gnil))))))))))
noncomputable def locklaid.L0.E : LEntry := LEntry.of locklaid.L0.st locklaid.L0.Pre (fun d => locklaid.L0.add d (locklaid.L0.F d)) locklaid.L0.out
noncomputable def locklaid.L0.call : locklaid.L0.D → Option locklaid.L0.X := fun d => locklaid.L0.E.run (locklaid.L0.st d)
noncomputable def locklaid.an : Ann := {
  objs := [],
  loops := fun r => bif Nat.beq r 9 then { keep := [0, 1, 2, 7, 8, 9, 10], sites := [8, 42], frz := [], data := [], owns := [] } else { keep := [], sites := [], frz := [], data := [], owns := [] },
  outs := fun r b => bif Nat.beq r 9 then (bif b then { keep := [6], sites := [], frz := [], data := [], owns := [] } else { keep := [1, 2, 7, 8, 9], sites := [8, 42], frz := [], data := [], owns := [] }) else { keep := [], sites := [], frz := [], data := [], owns := [] },
  sums := fun r => bif Nat.beq r 9 then some locklaid.L0.E else none,
  owns := [],
  trim := [],
  res := [],
  joinR := fun r => bif Nat.beq r 3 then some locklaid.JR3.J else none }
theorem locklaid.L0.inj : ∀ d d', locklaid.L0.st d = locklaid.L0.st d' → d = d' := fun (keys_2, after_2, delay_2, head, i, n8, n42) (keys_2', after_2', delay_2', head', i', n8', n42') hEq => by
  have e0 : keys_2 = keys_2' := d_inj (t := (.slice (.int .u64))) (congrArg (fun s : AS => (s.slot 0)) hEq)
  have e1 : after_2 = after_2' := d_inj (t := (.int .u16)) (congrArg (fun s : AS => (s.slot 1)) hEq)
  have e2 : delay_2 = delay_2' := d_inj (t := (.int .u16)) (congrArg (fun s : AS => (s.slot 2)) hEq)
  have e3 : head = head' := d_inj (t := .bool) (congrArg (fun s : AS => (s.slot 7)) hEq)
  have e4 : i = i' := d_inj (t := (.int .i64)) (congrArg (fun s : AS => (s.slot 10)) hEq)
  have e5 : n8 = n8' := d_inj (t := (.pair (.slice (.pair (.slice (.int .u64)) (.pair (.int .i64) (.pair (.int .i64) (.pair (.int .u64) .unit))))) .unit)) (congrArg (fun s : AS => (entC (s.ent (.new 8 0)))) hEq)
  have e6 : n42 = n42' := d_inj (t := (.pair (.slice (.int .u8)) (.pair .bool .unit))) (congrArg (fun s : AS => (entC (s.ent (.new 42 0)))) hEq)
  rw [e0, e1, e2, e3, e4, e5, e6]
theorem locklaid.L0.run {d : locklaid.L0.D} (h : locklaid.L0.Pre d) : locklaid.L0.call d = some (locklaid.L0.add d (locklaid.L0.F d)) := LEntry.of_run locklaid.L0.inj h
theorem locklaid.L0.byRounds (μ : locklaid.L0.D → Nat) (h : ∀ d, locklaid.L0.Pre d → (∃ d', locklaid.L0.Pre d' ∧ μ d' < μ d ∧ locklaid.L0.add d' (locklaid.L0.F d') = locklaid.L0.add d (locklaid.L0.F d) ∧ ∀ {R : Type} (kn : AS → Option R) (kx : Exit → AS → Option R), lround Try.prog locklaid.G locklaid.an 0 Try.f6 0 (locklaid.L0.st d) kn kx = kn (locklaid.L0.st d')) ∨ (∃ r, (locklaid.L0.out (locklaid.L0.add d (locklaid.L0.F d))).eval = some r ∧ ∀ {R : Type} (kn : AS → Option R) (kx : Exit → AS → Option R), lround Try.prog locklaid.G locklaid.an 0 Try.f6 0 (locklaid.L0.st d) kn kx = kx r.1 r.2)) : ∀ d, locklaid.L0.Pre d → ∃ n, lrun Try.prog locklaid.G locklaid.an 0 Try.f6 0 n (locklaid.L0.st d) (fun e s => some (e, s)) = (locklaid.L0.out (locklaid.L0.add d (locklaid.L0.F d))).eval := lrun_of (F := fun d => locklaid.L0.add d (locklaid.L0.F d)) (out := locklaid.L0.out) μ h
theorem locklaid.L0.step {R : Type} (keys_2 : (List Int)) (after_2 : Int) (delay_2 : Int) (head : Bool) (i : Int) (n8 : ((List ((List Int) × (Int × (Int × (Int × Unit))))) × Unit)) (n42 : ((List Int) × (Bool × Unit))) (kn : AS → Option R) (kx : Exit → AS → Option R) : lround Try.prog locklaid.G locklaid.an 0 Try.f6 0 (locklaid.L0.st (keys_2, after_2, delay_2, head, i, n8, n42)) kn kx =
  sel ((ilt i (((List.length keys_2) : Nat) : Int))) (
   obind (ru64.call n42) fun x4 =>
   sel (inb i (((List.length keys_2) : Nat) : Int)) (
   sel ((ine x4.1 (nth (.int .u64) keys_2 (Int.toNat i)))) (
    kx (locklaid.L0.ex0 ()).1 (locklaid.L0.ex0 ()).2) (
    kn (locklaid.L0.st (keys_2, after_2, delay_2, head, (iadd .i64 i (1 : Int)), n8, x4.2)))) none) (
   kx (locklaid.L0.ex1 ((after_2, delay_2, head, n8), n42)).1 (locklaid.L0.ex1 ((after_2, delay_2, head, n8), n42)).2) := by kernel_rfl
theorem locklaid.eq {R : Type} (keys : (List Int)) (after : Int) (delay : Int) (k : GRes → Option R) : arun Try.prog locklaid.G locklaid.an 0 Try.f6 (locklaid.st (keys, after, delay)).1 (locklaid.st (keys, after, delay)).2 k =
  obind (small12.call ()) fun x4 =>
  obind (
   sel ((igt (((List.length keys) : Nat) : Int) (12 : Int))) (
    locklaid.JR3.fin (keys, after, delay, x4, true, ([(keys, ((icv .i64 after), ((icv .i64 delay), ((0 : Int), ()))))], ()))) (
    obind (lright.call ([(keys, ((icv .i64 after), ((icv .i64 delay), ((0 : Int), ()))))], ())) fun x10 =>
    locklaid.JR3.fin (keys, after, delay, x4, (!x10), ([(keys, ((icv .i64 after), ((icv .i64 delay), ((0 : Int), ()))))], ())))) fun x11 =>
  sel (x11.2.2.2.2.1) (
   sel (x11.2.2.2.1) (
    sel ((igt (((List.length x11.1) : Nat) : Int) (12 : Int))) (
     k (locklaid.out true)) (
     obind (lbytes.call x11.2.2.2.2.2) fun x13 =>
     k (locklaid.out (ieq (((List.length x13) : Nat) : Int) (0 : Int))))) (
    k (locklaid.out false))) (
   obind (lbytes.call x11.2.2.2.2.2) fun x20 =>
   obind (ropen.call x20) fun x21 =>
   obind (rnum.call x21) fun x28 =>
   sel ((ine x28.1 (1 : Int))) (
    k (locklaid.out false)) (
    obind (rnum.call x28.2) fun x29 =>
    sel ((ine x29.1 (((List.length x11.1) : Nat) : Int))) (
     k (locklaid.out false)) (
     obind (locklaid.L0.call (x11.1, x11.2.1, x11.2.2.1, x11.2.2.2.1, (0 : Int), x11.2.2.2.2.2, x29.2)) fun x37 =>
     sel (x37.isLeft) (
      obind (x37.getLeft?) fun a38 =>
      k (locklaid.out false)) (
      obind (x37.getRight?) fun b39 =>
      sel (b39.1.2.2.1) (
       obind (rnum.call b39.2) fun x48 =>
       sel ((ieq x48.1 (icv .i64 b39.1.1))) (
        obind (rnum.call x48.2) fun x49 =>
        sel ((ieq x49.1 (icv .i64 b39.1.2.1))) (
         obind (ru64.call x49.2) fun x50 =>
         sel ((ieq x50.1 (0 : Int))) (
          obind (rleft.call x50.2) fun x51 =>
          sel ((ieq x51.2 (0 : Int))) (
           obind (rokk.call x51.1) fun x52 =>
           sel (x52.2) (
            obind (lsum.call b39.1.2.2.2) fun x53 =>
            obind (lbytes.call b39.1.2.2.2) fun x54 =>
            obind (htag.call ((⟨#[108, 111, 99, 107]⟩ : ByteArray), [x54])) fun x55 =>
            k (locklaid.out (Ty.beq (.arr 32 (.int .u8)) x53 x55))) (
            k (locklaid.out false))) (
           k (locklaid.out false))) (
          k (locklaid.out false))) (
         k (locklaid.out false))) (
        k (locklaid.out false))) (
       k (locklaid.out false)))))) := by kernel_rfl


theorem locklaid.L0.ok : ∀ d, locklaid.L0.Pre d → ∃ n, lrun Try.prog locklaid.G locklaid.an 0 Try.f6 0 n (locklaid.L0.st d) (fun e s => some (e, s)) = (locklaid.L0.out (locklaid.L0.add d (locklaid.L0.F d))).eval := by
  refine locklaid.L0.byRounds (fun (ks, af, dl, hd, i, l, r) => ks.length - i.toNat) ?_
  rintro ⟨ks, af, dl, hd, i, l, r⟩ ⟨hu, h12, hr, k, rest, hk, rfl, rfl⟩
  have h12 : ks.length ≤ 12 := h12
  have hk : k ≤ ks.length := hk
  have hu : KeysU ks := hu
  have hd0 : ((ks.drop k).flatMap be8 ++ rest).drop (8 * (ks.length - k)) = rest := List.drop_left' (by rw [keys_len, List.length_drop])
  by_cases h : k < ks.length
  · left
    have hx := hu _ (List.getElem_mem h)
    have n1 : nth (.int .u64) ks k = ks[k] := nth_lt (t := .int .u64) h
    have e0 : (ks.drop k).flatMap be8 ++ rest = be8 ks[k] ++ ((ks.drop (k + 1)).flatMap be8 ++ rest) := by rw [List.drop_eq_getElem_cons h, List.flatMap_cons, List.append_assoc]
    have hd1 : ((ks.drop (k + 1)).flatMap be8 ++ rest).drop (8 * (ks.length - (k + 1))) = rest := List.drop_left' (by rw [keys_len, List.length_drop])
    have hr2 : RdrB (be8 ks[k] ++ ((ks.drop (k + 1)).flatMap be8 ++ rest), false, ()) := by rw [← e0]; exact hr
    refine ⟨(ks, af, dl, hd, ((k + 1 : Nat) : Int), l, ((ks.drop (k + 1)).flatMap be8 ++ rest, false, ())), ⟨hu, h12, rdr_right hr2, k + 1, rest, by omega, rfl, rfl⟩, by simp only [Int.toNat_natCast]; omega, ?_, fun kn kx => ?_⟩
    · simp only [locklaid.L0.add, locklaid.L0.F, Int.toNat_natCast, hd0, hd1]
    · rw [locklaid.L0.step, ilt_true (by omega), e0, ru64_is hx hr2]
      simp only [obind_some, sel_true]
      rw [inb_true (by omega) (by omega), Int.toNat_natCast, n1, ine_false rfl, N.aNL (by omega)]
      rfl
  · right
    obtain rfl : k = ks.length := by omega
    refine ⟨locklaid.L0.ex1 ((af, dl, hd, l), (rest, false, ())), ?_, fun kn kx => ?_⟩
    · simp only [locklaid.L0.add, locklaid.L0.F, Int.toNat_natCast, hd0]
      rfl
    · rw [locklaid.L0.step, ilt_false (by omega), sel_false, List.drop_length]
      rfl
theorem icvU {x : Int} (h : U16' x) : icv .i64 x = x := by have h1 := h.1; have h2 := h.2; exact icv_i64 (by omega) (by omega)
theorem locklaid.ok : ∀ d, locklaid.Pre d → arun Try.prog locklaid.G locklaid.an 0 Try.f6 (locklaid.st d).1 (locklaid.st d).2 some = some (locklaid.out (locklaid.add d (locklaid.F d))) := by
  rintro ⟨ks, af, dl⟩ ⟨hu, ha, hd⟩
  have hu : KeysU ks := hu
  have ha : U16' af := ha
  have hd : U16' dl := hd
  rw [locklaid.eq, icvU ha, icvU hd, small12.run (d := ()) trivial]
  simp only [locklaid.JR3.fin_eq, obind_some, small12.add, small12.F, locklaid.add, locklaid.F]
  obtain ⟨L, hL⟩ : ∃ L : Lk, (([(ks, af, dl, (0 : Int), ())], ()) : Lk) = L := ⟨_, rfl⟩
  have hLu : LkU L := by
    rw [← hL]
    intro b hb
    have hb : b ∈ [(ks, af, dl, (0 : Int), ())] := hb
    rw [List.mem_singleton] at hb
    subst hb
    exact ⟨hu, (show U64 0 from ⟨Int.le_refl 0, by decide⟩)⟩
  have hL1 : L.1.length ≤ 1000000000 := by rw [← hL]; show 1 ≤ _; decide
  have b1 : lbytes.call L = some (lkB L) := by rw [lbytes.run (d := L) ⟨hLu, hL1⟩]; rfl
  have r1 : lright.call L = some (lkOk L) := by rw [lright.run (d := L) ⟨hLu, hL1⟩]; rfl
  by_cases h12 : ks.length > 12
  · rw [igt_true (by omega), sel_true]
    simp only [obind_some, sel_true, igt_true (show ((ks.length : Nat) : Int) > 12 by omega)]
  rw [igt_false (show ¬ ((ks.length : Nat) : Int) > 12 by omega), sel_false]
  simp only [hL, r1, obind_some]
  cases hok : lkOk L
  · have e0 : lkB L = [] := by unfold lkB; rw [hok, if_neg (by decide)]
    simp only [Bool.not_false, sel_true, igt_false (show ¬ ((ks.length : Nat) : Int) > 12 by omega), sel_false, b1, obind_some, e0]
    rfl
  · have eW : lkB L = rowN 1 ++ (rowN ks.length ++ (ks.flatMap be8 ++ (rowN af ++ (rowN dl ++ (be8 0 ++ []))))) := by
      rw [lkB_eq hok, ← hL]
      show rowN 1 ++ (brW (ks, af, dl, 0, ()) ++ []) = _
      simp only [brW, List.append_assoc, List.append_nil]
    have hB := lkB_bytes L
    have hlen := lkB_len L
    have q0 : RdrB (lkB L, false, ()) := rdr_of hB (by omega) _
    have o1 : ropen.call (lkB L) = some (lkB L, false, ()) := by rw [ropen.run (d := lkB L) (by show (lkB L).length ≤ _; omega)]; rfl
    rw [eW] at q0
    have q1 := rdr_right q0
    have q2 := rdr_right q1
    have q3 := rdr_right q2
    have q4 := rdr_right q3
    have q5 := rdr_right q4
    have n1 : NatI 1 := ⟨by decide, by decide⟩
    have nk : NatI (ks.length : Int) := natI_len (by omega)
    have na : NatI af := ⟨ha.1, by have := ha.2; omega⟩
    have nd : NatI dl := ⟨hd.1, by have := hd.2; omega⟩
    have s1 : lsum.call L = some (lkS L) := by rw [lsum.run (d := L) ⟨hLu, hL1⟩]; rfl
    have t1 : htag.call ((⟨#[108, 111, 99, 107]⟩ : ByteArray), [lkB L]) = some (lkS L) := by
      rw [htag.run (d := ((⟨#[108, 111, 99, 107]⟩ : ByteArray), [lkB L])) (tag_pre1 (by decide) (by omega)), lkS, hok]
      rfl
    simp only [Bool.not_true, sel_false, b1, obind_some, o1]
    rw [show rnum.call (lkB L, false, ()) = some (1, (rowN ks.length ++ (ks.flatMap be8 ++ (rowN af ++ (rowN dl ++ (be8 0 ++ [])))), false, ())) by rw [eW]; exact rnum_is n1 q0]
    simp only [obind_some]
    rw [ine_false rfl, sel_false, rnum_is nk q1]
    simp only [obind_some]
    rw [ine_false rfl, sel_false, locklaid.L0.run (d := (ks, af, dl, true, 0, L, (ks.flatMap be8 ++ (rowN af ++ (rowN dl ++ (be8 0 ++ []))), false, ()))) ⟨hu, by show ks.length ≤ 12; omega, q2, 0, _, Nat.zero_le _, rfl, by rw [List.drop_zero]⟩]
    have hdr : (ks.flatMap be8 ++ (rowN af ++ (rowN dl ++ (be8 0 ++ [])))).drop (8 * ks.length) = rowN af ++ (rowN dl ++ (be8 0 ++ [])) := List.drop_left' (keys_len ks)
    simp only [obind_some, locklaid.L0.add, locklaid.L0.F, Sum.isLeft_inr, sel_false, Sum.getRight?_inr, sel_true, Int.toNat_zero, Nat.sub_zero, hdr]
    rw [rnum_is na q3]
    simp only [obind_some]
    rw [icvU ha, ieq_true rfl, sel_true, rnum_is nd q4]
    simp only [obind_some]
    rw [icvU hd, ieq_true rfl, sel_true, ru64_is ⟨Int.le_refl 0, by decide⟩ q5]
    simp only [obind_some]
    rw [ieq_true rfl, sel_true, rleft.run (d := ([], false, ())) trivial]
    simp only [obind_some, rleft.add, rleft.F]
    rw [show ieq ((([] : List Int).length : Nat) : Int) 0 = true from rfl, sel_true, rokk.run (d := ([], false, ())) trivial]
    simp only [obind_some, rokk.add, rokk.F, Bool.not_false, sel_true, s1, b1]
    rw [t1, obind_some, beq32]

theorem locklaid.inj : ∀ d d', locklaid.st d = locklaid.st d' → d = d' := fun (keys, after, delay) (keys', after', delay') hEq => by
  have e0 : keys = keys' := d_inj (t := (.slice (.int .u64))) (congrArg (fun s : List AVal × List Ent => (s.1.getD 0 .undef)) hEq)
  have e1 : after = after' := d_inj (t := (.int .u16)) (congrArg (fun s : List AVal × List Ent => (s.1.getD 1 .undef)) hEq)
  have e2 : delay = delay' := d_inj (t := (.int .u16)) (congrArg (fun s : List AVal × List Ent => (s.1.getD 2 .undef)) hEq)
  rw [e0, e1, e2]
noncomputable def locklaid.E : Entry := Entry.of [some (.slice (.int .u64)), some (.int .u16), some (.int .u16)] locklaid.st locklaid.Pre (fun d => locklaid.add d (locklaid.F d)) locklaid.out
noncomputable def locklaid.call : locklaid.D → Option locklaid.X := fun d => locklaid.E.run (locklaid.st d).1 (locklaid.st d).2
theorem locklaid.run {d : locklaid.D} (h : locklaid.Pre d) : locklaid.call d = some (locklaid.add d (locklaid.F d)) := Entry.of_run locklaid.inj h
theorem locklaid.does : Does Try.prog 6 locklaid.E := Does.of (by kernel_rfl) (show Sound _ locklaid.G from Sound.cons small12.does (Sound.cons lright.does (Sound.cons lbytes.does (Sound.cons ropen.does (Sound.cons rnum.does (Sound.cons ru64.does (Sound.cons rleft.does (Sound.cons rokk.does (Sound.cons lsum.does (Sound.cons htag.does (Sound.nil _))))))))))) (by kernel_rfl) (by kernel_rfl) (by kernel_rfl) (LOk.fn 1 (by kernel_rfl) (And.intro (LDo.of (by kernel_rfl) locklaid.L0.ok) trivial)) locklaid.ok

end Go.Ab
