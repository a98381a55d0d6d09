/-
  Made by a program of mine (wip/gen), and by hand.
-/
import Derived.Test.YtglpcfdjdabdnaaLw5
namespace Go.Ab
open Go.Proofs
set_option maxRecDepth 100000
set_option linter.unusedVariables false
set_option linter.unusedSimpArgs false

/-! ### corsned/corsnedlaw12.LockSigned -/
abbrev locksigned.L0.D := (List Int) × Int × Int × Int × Int × Int × (List Int) × Bool × Nat × Int × Nat × (Int × (Int × (Int × Unit))) × (List Int) × (List Int)
def locksigned.L0.st : locksigned.L0.D → AS := fun (keys_2, secret_2, after_2, delay_2, height_2, age_2, m_2, head, ownL, i, n16L, n16, n54, n60) => ⟨([.d (.slice (.int .u64)) keys_2, .d (.int .u64) secret_2, .undef, .d (.int .u16) after_2, .d (.int .u16) delay_2, .d (.int .u16) height_2, .d (.int .u16) age_2, .undef, .undef, .rptr (.arr 32 (.int .u8)) m_2] ++ undN 5 ([.d .bool head, .ptr (.new 16 0) 0 [] 0, .sref (.new 54 0) 0 [] 0 0 ownL, .d (.int .i64) i] ++ undN 131 [])), [], (nilN 16 ([[.obj 0 false (.pr (.sref (.new 60 0) 0 [] 0 0 n16L) (.d (.pair (.int .i64) (.pair (.int .i64) (.pair (.int .u64) .unit))) n16))]] ++ nilN 37 ([[.obj 0 false (.vec 27 (.int .u64) n54)]] ++ nilN 5 ([[.obj 0 false (.vec 39 (.int .u64) n60)]] ++ nilN 89 []))))⟩
abbrev locksigned.L0.Y0 := Nat × Nat × (List Int) × (List Int)  -- ownL, n16L, n54, n60
abbrev locksigned.L0.X0 := (Int × Int × Int × Int × Int × (List Int) × Bool × (Int × (Int × (Int × Unit)))) × (Nat × Nat × (List Int) × (List Int))
def locksigned.L0.ex0 : locksigned.L0.X0 → Exit × AS := fun x => (.exit 0, ⟨([.undef, .d (.int .u64) x.1.1, .undef, .d (.int .u16) x.1.2.1, .d (.int .u16) x.1.2.2.1, .d (.int .u16) x.1.2.2.2.1, .d (.int .u16) x.1.2.2.2.2.1, .undef, .undef, .rptr (.arr 32 (.int .u8)) x.1.2.2.2.2.2.1] ++ undN 5 ([.d .bool x.1.2.2.2.2.2.2.1, .ptr (.new 16 0) 0 [] 0, .sref (.new 54 0) 0 [] 0 0 x.2.1] ++ undN 132 [])), [], (nilN 16 ([[.obj 0 false (.pr (.sref (.new 60 0) 0 [] 0 0 x.2.2.1) (.d (.pair (.int .i64) (.pair (.int .i64) (.pair (.int .u64) .unit))) x.1.2.2.2.2.2.2.2))]] ++ nilN 37 ([[.obj 0 false (.vec 27 (.int .u64) x.2.2.2.1)]] ++ nilN 5 ([[.obj 0 false (.vec 39 (.int .u64) x.2.2.2.2)]] ++ nilN 89 []))))⟩)
abbrev locksigned.L0.X := locksigned.L0.X0
abbrev locksigned.L0.Y := locksigned.L0.Y0
def locksigned.L0.out : locksigned.L0.X → Out (Exit × AS) := fun x => .ok (locksigned.L0.ex0 x)
def locksigned.L0.add : locksigned.L0.D → locksigned.L0.Y → locksigned.L0.X := fun (keys_2, secret_2, after_2, delay_2, height_2, age_2, m_2, head, ownL, i, n16L, n16, n54, n60) y => ((secret_2, after_2, delay_2, height_2, age_2, m_2, head, n16), y)
abbrev locksigned.D := (List Int) × Int × (List Int) × Int × Int × Int × Int
def locksigned.st : locksigned.D → List AVal × List Ent := fun (keys, secret, m, after, delay, height, age) => ([.d (.slice (.int .u64)) keys, .d (.int .u64) secret, .d (.arr 32 (.int .u8)) m, .d (.int .u16) after, .d (.int .u16) delay, .d (.int .u16) height, .d (.int .u16) age], [])
abbrev locksigned.Y := Bool
abbrev locksigned.X := Bool
def locksigned.out : locksigned.X → GRes := fun x => ⟨.d .bool x, [], []⟩
def locksigned.add : locksigned.D → locksigned.Y → locksigned.X := fun (keys, secret, m, after, delay, height, age) y => y


def U16 (x : Int) : Prop := 0 ≤ x ∧ x < 65536
def locksigned.L0.Pre : locksigned.L0.D → Prop := fun (ks, sc, af, dl, h, a, m, hd, l1, i, l2, n16, n54, n60) => KeysU ks ∧ ks.length ≤ 6 ∧ ∃ k : Nat, k ≤ ks.length ∧ i = k ∧ k = l1 ∧ k = l2 ∧ n54 = (ks.take k).map keyOf ∧ n60 = (ks.take k).map fun x => baseP (keyOf x)
def locksigned.L0.F : locksigned.L0.D → locksigned.L0.Y := fun (ks, sc, af, dl, h, a, m, hd, l1, i, l2, n16, n54, n60) => (ks.length, ks.length, ks.map keyOf, ks.map fun x => baseP (keyOf x))
def locksigned.Pre : locksigned.D → Prop := fun (ks, sc, m, af, dl, h, a) => KeysU ks ∧ U64 sc ∧ Sm m ∧ U16 af ∧ U16 dl ∧ U16 h ∧ U16 a
def locksigned.F : locksigned.D → locksigned.Y := fun _ => true

noncomputable def locksigned.G : Gam := gcons 8 anyArgs small12.E (gcons 12 anyArgs pbase.E (gcons 13 anyArgs wsigned.E (gcons 10 anyArgs lopen.E (gcons 14 anyArgs lright.E (gnil)))))
noncomputable def locksigned.L0.E : LEntry := LEntry.of locksigned.L0.st locksigned.L0.Pre (fun d => locksigned.L0.add d (locksigned.L0.F d)) locksigned.L0.out
noncomputable def locksigned.L0.call : locksigned.L0.D → Option locksigned.L0.X := fun d => locksigned.L0.E.run (locksigned.L0.st d)
noncomputable def locksigned.an : Ann := {
  objs := [],
  loops := fun r => bif Nat.beq r 7 then { keep := [0, 1, 3, 4, 5, 6, 9, 15, 16, 17, 18], sites := [16, 54, 60], frz := [], data := [], owns := [⟨17, [], 54, 37⟩, ⟨16, [.fst], 60, 41⟩] } else { keep := [], sites := [], frz := [], data := [], owns := [] },
  outs := fun r b => bif Nat.beq r 7 then (bif b then { keep := [14], sites := [], frz := [], data := [], owns := [] } else { keep := [1, 3, 4, 5, 6, 9, 15, 16, 17], sites := [16, 54, 60], frz := [], data := [], owns := [] }) else { keep := [], sites := [], frz := [], data := [], owns := [] },
  sums := fun r => bif Nat.beq r 7 then some locksigned.L0.E else none,
  owns := [],
  trim := [],
  res := [] }
theorem locksigned.L0.inj : ∀ d d', locksigned.L0.st d = locksigned.L0.st d' → d = d' := fun (keys_2, secret_2, after_2, delay_2, height_2, age_2, m_2, head, ownL, i, n16L, n16, n54, n60) (keys_2', secret_2', after_2', delay_2', height_2', age_2', m_2', head', ownL', i', n16L', n16', n54', n60') hEq => by
  have e0 : keys_2 = keys_2' := d_inj (t := (.slice (.int .u64))) (congrArg (fun s : AS => (s.slot 0)) hEq)
  have e1 : secret_2 = secret_2' := d_inj (t := (.int .u64)) (congrArg (fun s : AS => (s.slot 1)) hEq)
  have e2 : after_2 = after_2' := d_inj (t := (.int .u16)) (congrArg (fun s : AS => (s.slot 3)) hEq)
  have e3 : delay_2 = delay_2' := d_inj (t := (.int .u16)) (congrArg (fun s : AS => (s.slot 4)) hEq)
  have e4 : height_2 = height_2' := d_inj (t := (.int .u16)) (congrArg (fun s : AS => (s.slot 5)) hEq)
  have e5 : age_2 = age_2' := d_inj (t := (.int .u16)) (congrArg (fun s : AS => (s.slot 6)) hEq)
  have e6 : m_2 = m_2' := rptr_inj (t := (.arr 32 (.int .u8))) (congrArg (fun s : AS => (s.slot 9)) hEq)
  have e7 : head = head' := d_inj (t := .bool) (congrArg (fun s : AS => (s.slot 15)) hEq)
  have e8 : ownL = ownL' := congrArg (fun s : AS => srefLen (s.slot 17)) hEq
  have e9 : i = i' := d_inj (t := (.int .i64)) (congrArg (fun s : AS => (s.slot 18)) hEq)
  have e10 : n16L = n16L' := congrArg (fun s : AS => srefLen (prA (entC (s.ent (.new 16 0))))) hEq
  have e11 : n16 = n16' := d_inj (t := (.pair (.int .i64) (.pair (.int .i64) (.pair (.int .u64) .unit)))) (congrArg (fun s : AS => (prB (entC (s.ent (.new 16 0))))) hEq)
  have e12 : n54 = n54' := vec_inj (e := 27) (t := (.int .u64)) (congrArg (fun s : AS => (entC (s.ent (.new 54 0)))) hEq)
  have e13 : n60 = n60' := vec_inj (e := 39) (t := (.int .u64)) (congrArg (fun s : AS => (entC (s.ent (.new 60 0)))) hEq)
  rw [e0, e1, e2, e3, e4, e5, e6, e7, e8, e9, e10, e11, e12, e13]
theorem locksigned.L0.run {d : locksigned.L0.D} (h : locksigned.L0.Pre d) : locksigned.L0.call d = some (locksigned.L0.add d (locksigned.L0.F d)) := LEntry.of_run locksigned.L0.inj h
theorem locksigned.L0.byRounds (μ : locksigned.L0.D → Nat) (h : ∀ d, locksigned.L0.Pre d → (∃ d', locksigned.L0.Pre d' ∧ μ d' < μ d ∧ locksigned.L0.add d' (locksigned.L0.F d') = locksigned.L0.add d (locksigned.L0.F d) ∧ ∀ {R : Type} (kn : AS → Option R) (kx : Exit → AS → Option R), lround Try.prog locksigned.G locksigned.an 0 Try.f4 0 (locksigned.L0.st d) kn kx = kn (locksigned.L0.st d')) ∨ (∀ {R : Type} (kn : AS → Option R) (kx : Exit → AS → Option R), lround Try.prog locksigned.G locksigned.an 0 Try.f4 0 (locksigned.L0.st d) kn kx = kx (locksigned.L0.ex0 (locksigned.L0.add d (locksigned.L0.F d))).1 (locksigned.L0.ex0 (locksigned.L0.add d (locksigned.L0.F d))).2)) : ∀ d, locksigned.L0.Pre d → ∃ n, lrun Try.prog locksigned.G locksigned.an 0 Try.f4 0 n (locksigned.L0.st d) (fun e s => some (e, s)) = (locksigned.L0.out (locksigned.L0.add d (locksigned.L0.F d))).eval := lrun_one (F := fun d => locksigned.L0.add d (locksigned.L0.F d)) μ h
theorem locksigned.L0.step {R : Type} (keys_2 : (List Int)) (secret_2 : Int) (after_2 : Int) (delay_2 : Int) (height_2 : Int) (age_2 : Int) (m_2 : (List Int)) (head : Bool) (ownL : Nat) (i : Int) (n16L : Nat) (n16 : (Int × (Int × (Int × Unit)))) (n54 : (List Int)) (n60 : (List Int)) (kn : AS → Option R) (kx : Exit → AS → Option R) : lround Try.prog locksigned.G locksigned.an 0 Try.f4 0 (locksigned.L0.st (keys_2, secret_2, after_2, delay_2, height_2, age_2, m_2, head, ownL, i, n16L, n16, n54, n60)) kn kx =
  sel ((ilt i (((List.length keys_2) : Nat) : Int))) (
   sel (inb i (((List.length keys_2) : Nat) : Int)) (
   sel (decide (ownL ≤ (List.length n54))) (
   sel (roomA (ownL + 1) 8) (
   obind (pbase.call (iadd .u64 (1 : Int) (irem (nth (.int .u64) keys_2 (Int.toNat i)) (2305843009213688668 : Int)))) fun x1 =>
   sel (decide (n16L ≤ (List.length n60))) (
   sel (roomA (n16L + 1) 8) (
   kn (locksigned.L0.st (keys_2, secret_2, after_2, delay_2, height_2, age_2, m_2, head, (ownL + 1), (iadd .i64 i (1 : Int)), (n16L + 1), n16, ((List.take ownL n54) ++ [(iadd .u64 (1 : Int) (irem (nth (.int .u64) keys_2 (Int.toNat i)) (2305843009213688668 : Int)))]), ((List.take n16L n60) ++ [x1])))) none) none) none) none) none) (
   kx (locksigned.L0.ex0 ((secret_2, after_2, delay_2, height_2, age_2, m_2, head, n16), (ownL, n16L, n54, n60))).1 (locksigned.L0.ex0 ((secret_2, after_2, delay_2, height_2, age_2, m_2, head, n16), (ownL, n16L, n54, n60))).2) := by kernel_rfl
theorem locksigned.eq {R : Type} (keys : (List Int)) (secret : Int) (m : (List Int)) (after : Int) (delay : Int) (height : Int) (age : Int) (k : GRes → Option R) : arun Try.prog locksigned.G locksigned.an 0 Try.f4 (locksigned.st (keys, secret, m, after, delay, height, age)).1 (locksigned.st (keys, secret, m, after, delay, height, age)).2 k =
  obind (small12.call ()) fun x1 =>
  sel ((igt (((List.length keys) : Nat) : Int) (6 : Int))) (
   k (locksigned.out x1)) (
   obind (pbase.call secret) fun x2 =>
   obind (locksigned.L0.call (keys, secret, after, delay, height, age, m, x1, 0, (0 : Int), 0, ((icv .i64 after), ((icv .i64 delay), (x2, ()))), ([] : List Int), ([] : List Int))) fun x6 =>
   sel (decide (0 = 0 ∧ (0 + x6.2.2.1) ≤ (List.length x6.2.2.2.2))) (
   sel (decide (0 = 0 ∧ (0 + x6.2.1) ≤ (List.length x6.2.2.2.1))) (
   obind (wsigned.call ((1 : Int), (cut x6.2.2.2.1 0 x6.2.1), x6.1.2.2.2.2.2.1, x6.1.1)) fun x7 =>
   obind (lopen.call (([([(4 : Int)], ((0 : Int), ((0 : Int), ((0 : Int), ())))), ((cut x6.2.2.2.2 0 x6.2.2.1), x6.1.2.2.2.2.2.2.2)], ()), x7, x6.1.2.2.2.2.2.1, (icv .i64 x6.1.2.2.2.1), (icv .i64 x6.1.2.2.2.2.1))) fun x8 =>
   sel ((ilt x6.1.2.2.2.1 x6.1.2.1)) (
    obind (lright.call ([([(4 : Int)], ((0 : Int), ((0 : Int), ((0 : Int), ())))), ((cut x6.2.2.2.2 0 x6.2.2.1), x6.1.2.2.2.2.2.2.2)], ())) fun x9 =>
    sel ((!x9)) (
     k (locksigned.out false)) (
     sel ((ine x8 (0 : Int))) (
      sel ((ine x8 (11 : Int))) (
       k (locksigned.out false)) (
       k (locksigned.out x6.1.2.2.2.2.2.2.1))) (
      sel ((ine x8 (11 : Int))) (
       k (locksigned.out false)) (
       k (locksigned.out x6.1.2.2.2.2.2.2.1))))) (
    obind (lright.call ([([(4 : Int)], ((0 : Int), ((0 : Int), ((0 : Int), ())))), ((cut x6.2.2.2.2 0 x6.2.2.1), x6.1.2.2.2.2.2.2.2)], ())) fun x10 =>
    sel ((!x10)) (
     k (locksigned.out false)) (
     sel ((ine x8 (0 : Int))) (
      sel ((!(ilt x6.1.2.2.2.2.1 x6.1.2.2.1))) (
       k (locksigned.out false)) (
       sel ((ilt x6.1.2.2.2.2.1 x6.1.2.2.1)) (
        sel ((ine x8 (11 : Int))) (
         k (locksigned.out false)) (
         sel ((ilt x6.1.2.2.2.2.1 x6.1.2.2.1)) (
          k (locksigned.out x6.1.2.2.2.2.2.2.1)) (
          sel ((igt ((x6.2.1 : Nat) : Int) (0 : Int))) (
           sel (inc (1 : Int) (((List.length x7.2.1) : Nat) : Int)) (
           obind (lopen.call (([([(4 : Int)], ((0 : Int), ((0 : Int), ((0 : Int), ())))), ((cut x6.2.2.2.2 0 x6.2.2.1), x6.1.2.2.2.2.2.2.2)], ()), (x7.1, ((cut x7.2.1 1 ((List.length x7.2.1) - 1)), x7.2.2)), x6.1.2.2.2.2.2.1, (icv .i64 x6.1.2.2.2.1), (icv .i64 x6.1.2.2.2.2.1))) fun x11 =>
           sel (x6.1.2.2.2.2.2.2.1) (
            obind (lopen.call (([([(4 : Int)], ((0 : Int), ((0 : Int), ((0 : Int), ())))), ((cut x6.2.2.2.2 0 x6.2.2.1), x6.1.2.2.2.2.2.2.2)], ()), (x7.1, (x7.2.1, ((irem (iadd .u64 (irem x6.1.1 (2305843009213688669 : Int)) (1 : Int)) (2305843009213688669 : Int)), x7.2.2.2))), x6.1.2.2.2.2.2.1, (icv .i64 x6.1.2.2.2.1), (icv .i64 x6.1.2.2.2.2.1))) fun x12 =>
            sel ((ieq x12 (23 : Int))) (
             sel ((ieq ((x6.2.1 : Nat) : Int) (0 : Int))) (
              k (locksigned.out true)) (
              k (locksigned.out (ieq x11 (7 : Int))))) (
             k (locksigned.out false))) (
            k (locksigned.out false))) none) (
           obind (lopen.call (([([(4 : Int)], ((0 : Int), ((0 : Int), ((0 : Int), ())))), ((cut x6.2.2.2.2 0 x6.2.2.1), x6.1.2.2.2.2.2.2.2)], ()), x7, x6.1.2.2.2.2.2.1, (icv .i64 x6.1.2.2.2.1), (icv .i64 x6.1.2.2.2.2.1))) fun x13 =>
           sel (x6.1.2.2.2.2.2.2.1) (
            obind (lopen.call (([([(4 : Int)], ((0 : Int), ((0 : Int), ((0 : Int), ())))), ((cut x6.2.2.2.2 0 x6.2.2.1), x6.1.2.2.2.2.2.2.2)], ()), (x7.1, (x7.2.1, ((irem (iadd .u64 (irem x6.1.1 (2305843009213688669 : Int)) (1 : Int)) (2305843009213688669 : Int)), x7.2.2.2))), x6.1.2.2.2.2.2.1, (icv .i64 x6.1.2.2.2.1), (icv .i64 x6.1.2.2.2.2.1))) fun x14 =>
            sel ((ieq x14 (23 : Int))) (
             sel ((ieq ((x6.2.1 : Nat) : Int) (0 : Int))) (
              k (locksigned.out true)) (
              k (locksigned.out (ieq x13 (7 : Int))))) (
             k (locksigned.out false))) (
            k (locksigned.out false)))))) (
        sel ((ilt x6.1.2.2.2.2.1 x6.1.2.2.1)) (
         k (locksigned.out x6.1.2.2.2.2.2.2.1)) (
         sel ((igt ((x6.2.1 : Nat) : Int) (0 : Int))) (
          sel (inc (1 : Int) (((List.length x7.2.1) : Nat) : Int)) (
          obind (lopen.call (([([(4 : Int)], ((0 : Int), ((0 : Int), ((0 : Int), ())))), ((cut x6.2.2.2.2 0 x6.2.2.1), x6.1.2.2.2.2.2.2.2)], ()), (x7.1, ((cut x7.2.1 1 ((List.length x7.2.1) - 1)), x7.2.2)), x6.1.2.2.2.2.2.1, (icv .i64 x6.1.2.2.2.1), (icv .i64 x6.1.2.2.2.2.1))) fun x15 =>
          sel (x6.1.2.2.2.2.2.2.1) (
           obind (lopen.call (([([(4 : Int)], ((0 : Int), ((0 : Int), ((0 : Int), ())))), ((cut x6.2.2.2.2 0 x6.2.2.1), x6.1.2.2.2.2.2.2.2)], ()), (x7.1, (x7.2.1, ((irem (iadd .u64 (irem x6.1.1 (2305843009213688669 : Int)) (1 : Int)) (2305843009213688669 : Int)), x7.2.2.2))), x6.1.2.2.2.2.2.1, (icv .i64 x6.1.2.2.2.1), (icv .i64 x6.1.2.2.2.2.1))) fun x16 =>
           sel ((ieq x16 (23 : Int))) (
            sel ((ieq ((x6.2.1 : Nat) : Int) (0 : Int))) (
             k (locksigned.out true)) (
             k (locksigned.out (ieq x15 (7 : Int))))) (
            k (locksigned.out false))) (
           k (locksigned.out false))) none) (
          obind (lopen.call (([([(4 : Int)], ((0 : Int), ((0 : Int), ((0 : Int), ())))), ((cut x6.2.2.2.2 0 x6.2.2.1), x6.1.2.2.2.2.2.2.2)], ()), x7, x6.1.2.2.2.2.2.1, (icv .i64 x6.1.2.2.2.1), (icv .i64 x6.1.2.2.2.2.1))) fun x17 =>
          sel (x6.1.2.2.2.2.2.2.1) (
           obind (lopen.call (([([(4 : Int)], ((0 : Int), ((0 : Int), ((0 : Int), ())))), ((cut x6.2.2.2.2 0 x6.2.2.1), x6.1.2.2.2.2.2.2.2)], ()), (x7.1, (x7.2.1, ((irem (iadd .u64 (irem x6.1.1 (2305843009213688669 : Int)) (1 : Int)) (2305843009213688669 : Int)), x7.2.2.2))), x6.1.2.2.2.2.2.1, (icv .i64 x6.1.2.2.2.1), (icv .i64 x6.1.2.2.2.2.1))) fun x18 =>
           sel ((ieq x18 (23 : Int))) (
            sel ((ieq ((x6.2.1 : Nat) : Int) (0 : Int))) (
             k (locksigned.out true)) (
             k (locksigned.out (ieq x17 (7 : Int))))) (
            k (locksigned.out false))) (
           k (locksigned.out false))))))) (
      sel ((ilt x6.1.2.2.2.2.1 x6.1.2.2.1)) (
       sel ((ine x8 (11 : Int))) (
        k (locksigned.out false)) (
        sel ((ilt x6.1.2.2.2.2.1 x6.1.2.2.1)) (
         k (locksigned.out x6.1.2.2.2.2.2.2.1)) (
         sel ((igt ((x6.2.1 : Nat) : Int) (0 : Int))) (
          sel (inc (1 : Int) (((List.length x7.2.1) : Nat) : Int)) (
          obind (lopen.call (([([(4 : Int)], ((0 : Int), ((0 : Int), ((0 : Int), ())))), ((cut x6.2.2.2.2 0 x6.2.2.1), x6.1.2.2.2.2.2.2.2)], ()), (x7.1, ((cut x7.2.1 1 ((List.length x7.2.1) - 1)), x7.2.2)), x6.1.2.2.2.2.2.1, (icv .i64 x6.1.2.2.2.1), (icv .i64 x6.1.2.2.2.2.1))) fun x19 =>
          sel (x6.1.2.2.2.2.2.2.1) (
           obind (lopen.call (([([(4 : Int)], ((0 : Int), ((0 : Int), ((0 : Int), ())))), ((cut x6.2.2.2.2 0 x6.2.2.1), x6.1.2.2.2.2.2.2.2)], ()), (x7.1, (x7.2.1, ((irem (iadd .u64 (irem x6.1.1 (2305843009213688669 : Int)) (1 : Int)) (2305843009213688669 : Int)), x7.2.2.2))), x6.1.2.2.2.2.2.1, (icv .i64 x6.1.2.2.2.1), (icv .i64 x6.1.2.2.2.2.1))) fun x20 =>
           sel ((ieq x20 (23 : Int))) (
            sel ((ieq ((x6.2.1 : Nat) : Int) (0 : Int))) (
             k (locksigned.out true)) (
             k (locksigned.out (ieq x19 (7 : Int))))) (
            k (locksigned.out false))) (
           k (locksigned.out false))) none) (
          obind (lopen.call (([([(4 : Int)], ((0 : Int), ((0 : Int), ((0 : Int), ())))), ((cut x6.2.2.2.2 0 x6.2.2.1), x6.1.2.2.2.2.2.2.2)], ()), x7, x6.1.2.2.2.2.2.1, (icv .i64 x6.1.2.2.2.1), (icv .i64 x6.1.2.2.2.2.1))) fun x21 =>
          sel (x6.1.2.2.2.2.2.2.1) (
           obind (lopen.call (([([(4 : Int)], ((0 : Int), ((0 : Int), ((0 : Int), ())))), ((cut x6.2.2.2.2 0 x6.2.2.1), x6.1.2.2.2.2.2.2.2)], ()), (x7.1, (x7.2.1, ((irem (iadd .u64 (irem x6.1.1 (2305843009213688669 : Int)) (1 : Int)) (2305843009213688669 : Int)), x7.2.2.2))), x6.1.2.2.2.2.2.1, (icv .i64 x6.1.2.2.2.1), (icv .i64 x6.1.2.2.2.2.1))) fun x22 =>
           sel ((ieq x22 (23 : Int))) (
            sel ((ieq ((x6.2.1 : Nat) : Int) (0 : Int))) (
             k (locksigned.out true)) (
             k (locksigned.out (ieq x21 (7 : Int))))) (
            k (locksigned.out false))) (
           k (locksigned.out false)))))) (
       sel ((ilt x6.1.2.2.2.2.1 x6.1.2.2.1)) (
        k (locksigned.out x6.1.2.2.2.2.2.2.1)) (
        sel ((igt ((x6.2.1 : Nat) : Int) (0 : Int))) (
         sel (inc (1 : Int) (((List.length x7.2.1) : Nat) : Int)) (
         obind (lopen.call (([([(4 : Int)], ((0 : Int), ((0 : Int), ((0 : Int), ())))), ((cut x6.2.2.2.2 0 x6.2.2.1), x6.1.2.2.2.2.2.2.2)], ()), (x7.1, ((cut x7.2.1 1 ((List.length x7.2.1) - 1)), x7.2.2)), x6.1.2.2.2.2.2.1, (icv .i64 x6.1.2.2.2.1), (icv .i64 x6.1.2.2.2.2.1))) fun x23 =>
         sel (x6.1.2.2.2.2.2.2.1) (
          obind (lopen.call (([([(4 : Int)], ((0 : Int), ((0 : Int), ((0 : Int), ())))), ((cut x6.2.2.2.2 0 x6.2.2.1), x6.1.2.2.2.2.2.2.2)], ()), (x7.1, (x7.2.1, ((irem (iadd .u64 (irem x6.1.1 (2305843009213688669 : Int)) (1 : Int)) (2305843009213688669 : Int)), x7.2.2.2))), x6.1.2.2.2.2.2.1, (icv .i64 x6.1.2.2.2.1), (icv .i64 x6.1.2.2.2.2.1))) fun x24 =>
          sel ((ieq x24 (23 : Int))) (
           sel ((ieq ((x6.2.1 : Nat) : Int) (0 : Int))) (
            k (locksigned.out true)) (
            k (locksigned.out (ieq x23 (7 : Int))))) (
           k (locksigned.out false))) (
          k (locksigned.out false))) none) (
         obind (lopen.call (([([(4 : Int)], ((0 : Int), ((0 : Int), ((0 : Int), ())))), ((cut x6.2.2.2.2 0 x6.2.2.1), x6.1.2.2.2.2.2.2.2)], ()), x7, x6.1.2.2.2.2.2.1, (icv .i64 x6.1.2.2.2.1), (icv .i64 x6.1.2.2.2.2.1))) fun x25 =>
         sel (x6.1.2.2.2.2.2.2.1) (
          obind (lopen.call (([([(4 : Int)], ((0 : Int), ((0 : Int), ((0 : Int), ())))), ((cut x6.2.2.2.2 0 x6.2.2.1), x6.1.2.2.2.2.2.2.2)], ()), (x7.1, (x7.2.1, ((irem (iadd .u64 (irem x6.1.1 (2305843009213688669 : Int)) (1 : Int)) (2305843009213688669 : Int)), x7.2.2.2))), x6.1.2.2.2.2.2.1, (icv .i64 x6.1.2.2.2.1), (icv .i64 x6.1.2.2.2.2.1))) fun x26 =>
          sel ((ieq x26 (23 : Int))) (
           sel ((ieq ((x6.2.1 : Nat) : Int) (0 : Int))) (
            k (locksigned.out true)) (
            k (locksigned.out (ieq x25 (7 : Int))))) (
           k (locksigned.out false))) (
          k (locksigned.out false))))))))) none) none) := by kernel_rfl


theorem locksigned.L0.ok : ∀ d, locksigned.L0.Pre d → ∃ n, lrun Try.prog locksigned.G locksigned.an 0 Try.f4 0 n (locksigned.L0.st d) (fun e s => some (e, s)) = (locksigned.L0.out (locksigned.L0.add d (locksigned.L0.F d))).eval := by
  refine locksigned.L0.byRounds (fun (ks, sc, af, dl, h, a, m, hd, l1, i, l2, n16, n54, n60) => ks.length - i.toNat) ?_
  rintro ⟨ks, sc, af, dl, h, a, m, hd, l1, i, l2, n16, n54, n60⟩ ⟨hu, hl, k, hk, rfl, rfl, rfl, rfl, rfl⟩
  have hl : ks.length ≤ 6 := hl
  have hk : k ≤ ks.length := hk
  have e1 : ((ks.take k).map keyOf).length = k := by rw [List.length_map, List.length_take]; omega
  have e2 : ((ks.take k).map fun x => baseP (keyOf x)).length = k := by rw [List.length_map, List.length_take]; omega
  by_cases hlt : k < ks.length
  · left
    have hx := hu _ (List.getElem_mem hlt)
    have n1 : nth (.int .u64) ks k = ks[k] := nth_lt (t := .int .u64) hlt
    refine ⟨(ks, sc, af, dl, h, a, m, hd, k + 1, ((k + 1 : Nat) : Int), k + 1, n16, (ks.take (k + 1)).map keyOf, (ks.take (k + 1)).map fun x => baseP (keyOf x)), ⟨hu, hl, k + 1, by omega, rfl, rfl, rfl, rfl, rfl⟩, by simp only [Int.toNat_natCast]; omega, rfl, fun kn kx => ?_⟩
    rw [locksigned.L0.step, Int.toNat_natCast, n1, keyOf_eq hx, pbase.run (d := keyOf ks[k]) (keyOf_u _), ilt_true (by omega), inb_true (by omega) (by omega), dec_true (by rw [e1]; exact Nat.le_refl _), dec_true (by rw [e2]; exact Nat.le_refl _), room_true (by omega) (by omega), N.aNL (by omega)]
    have t1 : ((ks.take (k + 1)).map keyOf) = List.take k ((ks.take k).map keyOf) ++ [keyOf ks[k]] := by rw [List.take_of_length_le (Nat.le_of_eq e1), List.take_succ_eq_append_getElem hlt, List.map_append]; rfl
    have t2 : ((ks.take (k + 1)).map fun x => baseP (keyOf x)) = List.take k ((ks.take k).map fun x => baseP (keyOf x)) ++ [baseP (keyOf ks[k])] := by rw [List.take_of_length_le (Nat.le_of_eq e2), List.take_succ_eq_append_getElem hlt, List.map_append]; rfl
    rw [t1, t2]
    rfl
  · right
    obtain rfl : k = ks.length := by omega
    intro R kn kx
    rw [locksigned.L0.step, ilt_false (by omega), sel_false, List.take_length]
    rfl
theorem icv16 {x : Int} (h : U16 x) : icv .i64 x = x := by have h1 := h.1; have h2 := h.2; exact icv_i64 (by omega) (by omega)
theorem ht16' {x : Int} (h : U16 x) : htOk x = true := by have h1 := h.1; have h2 := h.2; rw [htOk]; exact dec_true (by omega)
def nextS (s : Int) : Int := (s % 2305843009213688669 + 1) % 2305843009213688669
theorem nextS_eq {s : Int} (h : U64 s) : irem (iadd .u64 (irem s (2305843009213688669 : Int)) (1 : Int)) (2305843009213688669 : Int) = nextS s := by
  obtain ⟨n, rfl⟩ : ∃ n : Nat, s = n := ⟨s.toNat, by have := h.1; omega⟩
  rw [show irem (n : Int) (2305843009213688669 : Int) = ((n % 2305843009213688669 : Nat) : Int) from N.rNL]
  have e : iadd .u64 ((n % 2305843009213688669 : Nat) : Int) (1 : Int) = ((n % 2305843009213688669 + 1 : Nat) : Int) := by
    have e : iadd .u64 ((n % 2305843009213688669 : Nat) : Int) (1 : Int) = (((n % 2305843009213688669 : Nat) : Int) + 1) % 18446744073709551616 := rfl
    rw [e]; omega
  rw [e, show irem ((n % 2305843009213688669 + 1 : Nat) : Int) (2305843009213688669 : Int) = (((n % 2305843009213688669 + 1) % 2305843009213688669 : Nat) : Int) from N.rNL]
  unfold nextS
  omega
theorem nextS_u (s : Int) : U64 (nextS s) := by unfold nextS; exact ⟨by omega, by omega⟩
/-- A lock of another branch and one of points. -/
def twoL (B : List Int) (af dl sc : Int) : Lk := ([([4], 0, 0, 0, ()), (B, af, dl, sc, ())], ())
theorem locksigned.ok : ∀ d, locksigned.Pre d → arun Try.prog locksigned.G locksigned.an 0 Try.f4 (locksigned.st d).1 (locksigned.st d).2 some = some (locksigned.out (locksigned.add d (locksigned.F d))) := by
  rintro ⟨ks, sc, m, af, dl, h, a⟩ ⟨hu, hs, hm, haf, hdl, hh, ha⟩
  have hu : KeysU ks := hu
  have hs : U64 sc := hs
  have hm : Sm m := hm
  have haf : U16 af := haf
  have hdl : U16 dl := hdl
  have hh : U16 h := hh
  have ha : U16 a := ha
  rw [locksigned.eq, small12.run (d := ()) trivial]
  simp only [obind_some, small12.add, small12.F, locksigned.add, locksigned.F]
  by_cases h6 : ks.length > 6
  · rw [igt_true (by omega)]; rfl
  rw [igt_false (by omega), sel_false, pbase.run (d := sc) hs]
  simp only [obind_some, pbase.add, pbase.F]
  rw [locksigned.L0.run (d := (ks, sc, af, dl, h, a, m, true, 0, 0, 0, (icv .i64 af, icv .i64 dl, baseP sc, ()), [], [])) ⟨hu, by show ks.length ≤ 6; omega, 0, by omega, rfl, rfl, rfl, rfl, rfl⟩]
  simp only [obind_some, locksigned.L0.add, locksigned.L0.F]
  obtain ⟨K, hK⟩ : ∃ K, ks.map keyOf = K := ⟨_, rfl⟩
  have hKl : K.length = ks.length := by rw [← hK, List.length_map]
  have hB : (ks.map fun x => baseP (keyOf x)) = K.map baseP := by rw [← hK, List.map_map]; rfl
  have hKk : ∀ k ∈ K, 0 < k ∧ k < 2305843009213688669 := fun k hk => by
    rw [← hK] at hk
    obtain ⟨x, _, rfl⟩ := List.mem_map.1 hk
    exact keyOf_ok x
  have hKu : KeysU K := fun k hk => by have := hKk k hk; exact ⟨by omega, by omega⟩
  rw [hB, hK, cut_len hKl, cut_len (show (K.map baseP).length = ks.length by rw [List.length_map, hKl]), icv16 haf, icv16 hdl, icv16 hh, icv16 ha]
  have w1 : wsigned.call (1, K, m, sc) = some (signedW 1 K m sc) := by rw [wsigned.run (d := (1, K, m, sc)) ⟨hKu, hm, by show K.length ≤ _; omega⟩]; rfl
  rw [w1]
  simp only [obind_some, signedW, nextS_eq hs]
  have hlk : lkOk (twoL (K.map baseP) af dl (baseP sc)) = true := by
    have e : lkOk (twoL (K.map baseP) af dl (baseP sc)) = ((brOk ([4], 0, 0, 0, ()) && (brOk (K.map baseP, af, dl, baseP sc, ()) && true)) && true) := rfl
    have e2 : brOk (K.map baseP, af, dl, baseP sc, ()) = (decide ((K.map baseP).length ≤ 12) && ((K.map baseP).all isP && (htOk af && (htOk dl && (decide (baseP sc = 0) || isP (baseP sc)))))) := rfl
    have e3 : (K.map baseP).all isP = true := by
      rw [List.all_eq_true]
      intro p hp
      obtain ⟨k, _, rfl⟩ := List.mem_map.1 hp
      exact isP_base k
    rw [e, brOk_of _ _ _ (Nat.le_of_ble_eq_true rfl), ht0, e2, dec_true (by rw [List.length_map]; omega), e3, ht16' haf, ht16' hdl, isP_base]
    simp only [List.all_cons, List.all_nil, isP_gen, Bool.or_true, Bool.and_true, Bool.true_and]
  have hlu : LkU (twoL (K.map baseP) af dl (baseP sc)) := fun b hb => by
    have hb : b ∈ [([4], (0 : Int), (0 : Int), (0 : Int), ()), (K.map baseP, af, dl, baseP sc, ())] := hb
    rcases List.mem_cons.1 hb with rfl | hb
    · exact ⟨keysU_cons ⟨by decide, by decide⟩ keysU_nil, u0⟩
    · rw [List.mem_singleton] at hb
      subst hb
      refine ⟨fun p hp => ?_, baseP_u _⟩
      obtain ⟨k, _, rfl⟩ := List.mem_map.1 hp
      exact baseP_u k
  have hsu : ∀ ss : List Int, ∀ x ∈ (ss.map fun k => signQ k m), SgU x := fun ss x hx => by
    obtain ⟨k, _, rfl⟩ := List.mem_map.1 hx
    exact signQ_u k m
  have o1 : lopen.call (twoL (K.map baseP) af dl (baseP sc), (1, K.map (fun k => signQ k m), sc, ()), m, h, a) = some (if h < af ∨ a < dl then 11 else 0) := lopen_is hlu (by show 2 ≤ _; decide) ⟨hsu K, hs⟩ hm (by
    rw [show ((1 : Int), K.map (fun k => signQ k m), sc, ()) = (((1 : Nat) : Int), K.map (fun k => signQ k m), sc, ()) from rfl, open_of (b := (K.map baseP, af, dl, baseP sc, ())) hlk (by show 1 < 2; decide) rfl, openB_signed _ hKk _ _ _ _ _ _ _ (Or.inr rfl)])
  have r1 : lright.call (twoL (K.map baseP) af dl (baseP sc)) = some true := lright_is hlu (by show 2 ≤ _; decide) hlk
  have tw : (([([(4 : Int)], ((0 : Int), ((0 : Int), ((0 : Int), ())))), (K.map baseP, (af, (dl, (baseP sc, ()))))], ()) : Lk) = twoL (K.map baseP) af dl (baseP sc) := rfl
  simp only [tw, o1, obind_some, Nat.zero_add, hKl, List.length_map, Nat.le_refl, and_self, dec_true, sel_true, r1, Bool.not_true, sel_false]
  have q11 : ine (11 : Int) 0 = true := rfl
  have q12 : ine (11 : Int) 11 = false := rfl
  have q00 : ine (0 : Int) 0 = false := rfl
  by_cases e1 : h < af
  · rw [ilt_true e1, if_pos (Or.inl e1)]
    simp only [sel_true, q11, q12, sel_false]
  by_cases e2 : a < dl
  · rw [ilt_false e1, ilt_true e2, if_pos (Or.inr e2)]
    simp only [sel_true, q11, q12, sel_false, Bool.not_true]
  have o2 : lopen.call (twoL (K.map baseP) af dl (baseP sc), (1, K.map (fun k => signQ k m), nextS sc, ()), m, h, a) = some 23 := lopen_is hlu (by show 2 ≤ _; decide) ⟨hsu K, nextS_u sc⟩ hm (by
    rw [show ((1 : Int), K.map (fun k => signQ k m), nextS sc, ()) = (((1 : Nat) : Int), K.map (fun k => signQ k m), nextS sc, ()) from rfl, open_of (b := (K.map baseP, af, dl, baseP sc, ())) hlk (by show 1 < 2; decide) rfl]
    have hb0 : baseP sc ≠ 0 := fun x => by have e := isP_base sc; rw [x] at e; exact absurd e (by decide)
    show (if h < af ∨ a < dl then (11 : Int) else if baseP sc ≠ 0 ∧ baseP (nextS sc) ≠ baseP sc then 23 else _) = 23
    rw [if_neg (by simp only [e1, e2, or_self, not_false_eq_true]), if_pos ⟨hb0, base_next sc hs.1⟩])
  rw [ilt_false e1, ilt_false e2, if_neg (by simp only [e1, e2, or_self, not_false_eq_true])]
  simp only [sel_true, q00, sel_false, Bool.not_false, Bool.not_true, o2, obind_some]
  by_cases h0 : ks.length = 0
  · have g0 : igt ((ks.length : Nat) : Int) 0 = false := igt_false (by omega)
    have z0 : ieq ((ks.length : Nat) : Int) 0 = true := ieq_true (by omega)
    have y0 : ieq (23 : Int) 23 = true := rfl
    simp only [g0, z0, y0, sel_false, o1, obind_some, o2, sel_true]
  · have o3 : lopen.call (twoL (K.map baseP) af dl (baseP sc), (1, cut (K.map (fun k => signQ k m)) 1 (ks.length - 1), sc, ()), m, h, a) = some 7 := lopen_is hlu (by show 2 ≤ _; decide) ⟨fun x hx => hsu K x (List.mem_of_mem_drop (List.mem_of_mem_take hx)), hs⟩ hm (by
      rw [show ((1 : Int), cut (K.map (fun k => signQ k m)) 1 (ks.length - 1), sc, ()) = (((1 : Nat) : Int), cut (K.map (fun k => signQ k m)) 1 (ks.length - 1), sc, ()) from rfl, open_of (b := (K.map baseP, af, dl, baseP sc, ())) hlk (by show 1 < 2; decide) rfl]
      show (if h < af ∨ a < dl then (11 : Int) else if baseP sc ≠ 0 ∧ baseP sc ≠ baseP sc then 23 else if (cut (K.map (fun k => signQ k m)) 1 (ks.length - 1)).length ≠ (K.map baseP).length then 7 else _) = 7
      rw [if_neg (by simp only [e1, e2, or_self, not_false_eq_true]), if_neg (by rintro ⟨_, x⟩; exact x rfl), if_pos (by
        unfold cut
        rw [List.length_take, List.length_drop, List.length_map, List.length_map]
        omega)])
    have g0 : igt ((ks.length : Nat) : Int) 0 = true := igt_true (by omega)
    have z0 : ieq ((ks.length : Nat) : Int) 0 = false := ieq_false (by omega)
    have y0 : ieq (23 : Int) 23 = true := rfl
    have y7 : ieq (7 : Int) 7 = true := rfl
    have i0 : inc (1 : Int) ((ks.length : Nat) : Int) = true := inc_true (by omega) (by omega)
    simp only [g0, z0, y0, y7, i0, sel_false, o3, obind_some, o2, sel_true]

theorem locksigned.inj : ∀ d d', locksigned.st d = locksigned.st d' → d = d' := fun (keys, secret, m, after, delay, height, age) (keys', secret', m', after', delay', height', age') hEq => by
  have e0 : keys = keys' := d_inj (t := (.slice (.int .u64))) (congrArg (fun s : List AVal × List Ent => (s.1.getD 0 .undef)) hEq)
  have e1 : secret = secret' := d_inj (t := (.int .u64)) (congrArg (fun s : List AVal × List Ent => (s.1.getD 1 .undef)) hEq)
  have e2 : m = m' := d_inj (t := (.arr 32 (.int .u8))) (congrArg (fun s : List AVal × List Ent => (s.1.getD 2 .undef)) hEq)
  have e3 : after = after' := d_inj (t := (.int .u16)) (congrArg (fun s : List AVal × List Ent => (s.1.getD 3 .undef)) hEq)
  have e4 : delay = delay' := d_inj (t := (.int .u16)) (congrArg (fun s : List AVal × List Ent => (s.1.getD 4 .undef)) hEq)
  have e5 : height = height' := d_inj (t := (.int .u16)) (congrArg (fun s : List AVal × List Ent => (s.1.getD 5 .undef)) hEq)
  have e6 : age = age' := d_inj (t := (.int .u16)) (congrArg (fun s : List AVal × List Ent => (s.1.getD 6 .undef)) hEq)
  rw [e0, e1, e2, e3, e4, e5, e6]
noncomputable def locksigned.E : Entry := Entry.of [some (.slice (.int .u64)), some (.int .u64), some (.arr 32 (.int .u8)), some (.int .u16), some (.int .u16), some (.int .u16), some (.int .u16)] locksigned.st locksigned.Pre (fun d => locksigned.add d (locksigned.F d)) locksigned.out
noncomputable def locksigned.call : locksigned.D → Option locksigned.X := fun d => locksigned.E.run (locksigned.st d).1 (locksigned.st d).2
theorem locksigned.run {d : locksigned.D} (h : locksigned.Pre d) : locksigned.call d = some (locksigned.add d (locksigned.F d)) := Entry.of_run locksigned.inj h
theorem locksigned.does : Does Try.prog 4 locksigned.E := Does.of (by kernel_rfl) (show Sound _ locksigned.G from Sound.cons small12.does (Sound.cons pbase.does (Sound.cons wsigned.does (Sound.cons lopen.does (Sound.cons lright.does (Sound.nil _)))))) (by kernel_rfl) (by kernel_rfl) (by kernel_rfl) (LOk.fn 1 (by kernel_rfl) (And.intro (LDo.of (by kernel_rfl) locksigned.L0.ok) trivial)) locksigned.ok

end Go.Ab
