/-
  Made by a program of mine (wip/gen), and by hand.
-/
import Derived.Test.YtglpcfdjdabdnaaLr1
namespace Go.Ab
open Go.Proofs
set_option maxRecDepth 100000
set_option linter.unusedVariables false
set_option linter.unusedSimpArgs false

/-! ### corsned/lock.Read -/
abbrev lread.L0.D := (List Int) × Int × Int × Nat × ((List Int) × (Bool × Unit)) × (List ((List Int) × (Int × (Int × (Int × Unit)))))
def lread.L0.st : lread.L0.D → AS := fun (b_2, n, i, n5L, n11, n51) => ⟨([.d (.slice (.int .u8)) b_2, .undef, .ptr (.new 2 0) 0 [] 0, .undef, .ptr (.new 11 0) 0 [] 0, .ptr (.new 5 0) 0 [] 0, .d (.int .i64) n, .d (.int .i64) i] ++ undN 57 []), [], ([[], [], [.obj 0 false (.pr (.nils) (.d .unit ()))], [], [], [.obj 0 false (.pr (.sref (.new 51 0) 0 [] 0 0 n5L) (.d .unit ()))]] ++ nilN 5 ([[.obj 0 false (.d (.pair (.slice (.int .u8)) (.pair .bool .unit)) n11)]] ++ nilN 39 ([[.obj 0 false (.vec 43 (.pair (.slice (.int .u64)) (.pair (.int .i64) (.pair (.int .i64) (.pair (.int .u64) .unit)))) n51)]] ++ nilN 13 [])))⟩
abbrev lread.L0.Y0 := (List Int) × Nat × (List ((List Int) × (Int × (Int × (Int × Unit)))))  -- b, n5L, n51
abbrev lread.L0.X0 := (List Int) × Nat × (List ((List Int) × (Int × (Int × (Int × Unit)))))
def lread.L0.ex0 : lread.L0.X0 → Exit × AS := fun x => (.exit 0, ⟨([.d (.slice (.int .u8)) x.1, .undef, .ptr (.new 2 0) 0 [] 0, .undef, .undef, .ptr (.new 5 0) 0 [] 0] ++ undN 59 []), [], ([[], [], [.obj 0 false (.pr (.nils) (.d .unit ()))], [], [], [.obj 0 false (.pr (.sref (.new 51 0) 0 [] 0 0 x.2.1) (.d .unit ()))]] ++ nilN 45 ([[.obj 0 false (.vec 43 (.pair (.slice (.int .u64)) (.pair (.int .i64) (.pair (.int .i64) (.pair (.int .u64) .unit)))) x.2.2)]] ++ nilN 13 []))⟩)
abbrev lread.L0.X := lread.L0.X0
abbrev lread.L0.Y := lread.L0.Y0
def lread.L0.out : lread.L0.X → Out (Exit × AS) := fun x => .ok (lread.L0.ex0 x)
def lread.L0.add : lread.L0.D → lread.L0.Y → lread.L0.X := fun (b_2, n, i, n5L, n11, n51) y => y
abbrev lread.L1.D := (List Int) × Int × Int × Int × Int × Nat × Nat × (Int × (Int × (Int × Unit))) × ((List Int) × (Bool × Unit)) × (List Int) × (List ((List Int) × (Int × (Int × (Int × Unit)))))
def lread.L1.st : lread.L1.D → AS := fun (b_3, n_2, i_2, t27, t28, n5L_2, n8L, n8, n11_2, n35, n51_2) => ⟨([.d (.slice (.int .u8)) b_3, .undef, .ptr (.new 2 0) 0 [] 0, .undef, .ptr (.new 11 0) 0 [] 0, .ptr (.new 5 0) 0 [] 0, .d (.int .i64) n_2, .d (.int .i64) i_2, .ptr (.new 8 0) 0 [] 0] ++ undN 18 ([.d (.int .i64) t27, .d (.int .i64) t28] ++ undN 36 [])), [], ([[], [], [.obj 0 false (.pr (.nils) (.d .unit ()))], [], [], [.obj 0 false (.pr (.sref (.new 51 0) 0 [] 0 0 n5L_2) (.d .unit ()))], [], [], [.obj 0 false (.pr (.sref (.new 35 0) 0 [] 0 0 n8L) (.d (.pair (.int .i64) (.pair (.int .i64) (.pair (.int .u64) .unit))) n8))], [], [], [.obj 0 false (.d (.pair (.slice (.int .u8)) (.pair .bool .unit)) n11_2)]] ++ nilN 23 ([[.obj 0 false (.vec 39 (.int .u64) n35)]] ++ nilN 15 ([[.obj 0 false (.vec 43 (.pair (.slice (.int .u64)) (.pair (.int .i64) (.pair (.int .i64) (.pair (.int .u64) .unit)))) n51_2)]] ++ nilN 13 [])))⟩
abbrev lread.L1.Y0 := Nat × ((List Int) × (Bool × Unit)) × (List Int)  -- n8L, n11, n35
abbrev lread.L1.X0 := ((List Int) × Int × Int × Nat × (Int × (Int × (Int × Unit))) × (List ((List Int) × (Int × (Int × (Int × Unit)))))) × (Nat × ((List Int) × (Bool × Unit)) × (List Int))
def lread.L1.ex0 : lread.L1.X0 → Exit × AS := fun x => (.exit 2, ⟨([.d (.slice (.int .u8)) x.1.1, .undef, .ptr (.new 2 0) 0 [] 0, .undef, .ptr (.new 11 0) 0 [] 0, .ptr (.new 5 0) 0 [] 0, .d (.int .i64) x.1.2.1, .d (.int .i64) x.1.2.2.1, .ptr (.new 8 0) 0 [] 0] ++ undN 56 []), [], ([[], [], [.obj 0 false (.pr (.nils) (.d .unit ()))], [], [], [.obj 0 false (.pr (.sref (.new 51 0) 0 [] 0 0 x.1.2.2.2.1) (.d .unit ()))], [], [], [.obj 0 false (.pr (.sref (.new 35 0) 0 [] 0 0 x.2.1) (.d (.pair (.int .i64) (.pair (.int .i64) (.pair (.int .u64) .unit))) x.1.2.2.2.2.1))], [], [], [.obj 0 false (.d (.pair (.slice (.int .u8)) (.pair .bool .unit)) x.2.2.1)]] ++ nilN 23 ([[.obj 0 false (.vec 39 (.int .u64) x.2.2.2)]] ++ nilN 15 ([[.obj 0 false (.vec 43 (.pair (.slice (.int .u64)) (.pair (.int .i64) (.pair (.int .i64) (.pair (.int .u64) .unit)))) x.1.2.2.2.2.2)]] ++ nilN 13 [])))⟩)
abbrev lread.L1.X := lread.L1.X0
abbrev lread.L1.Y := lread.L1.Y0
def lread.L1.out : lread.L1.X → Out (Exit × AS) := fun x => .ok (lread.L1.ex0 x)
def lread.L1.add : lread.L1.D → lread.L1.Y → lread.L1.X := fun (b_3, n_2, i_2, t27, t28, n5L_2, n8L, n8, n11_2, n35, n51_2) y => ((b_3, n_2, i_2, n5L_2, n8, n51_2), y)
abbrev lread.D := (List Int)
def lread.st : lread.D → List AVal × List Ent := fun b => ([.d (.slice (.int .u8)) b], [])
abbrev lread.Y := ((List ((List Int) × (Int × (Int × (Int × Unit))))) × Unit) × Bool
abbrev lread.X := ((List ((List Int) × (Int × (Int × (Int × Unit))))) × Unit) × Bool
def lread.out : lread.X → GRes := fun x => ⟨.cons (.d (.pair (.slice (.pair (.slice (.int .u64)) (.pair (.int .i64) (.pair (.int .i64) (.pair (.int .u64) .unit))))) .unit) x.1) (.cons (.d .bool x.2) (.nil)), [], []⟩
def lread.add : lread.D → lread.Y → lread.X := fun b y => y


def lread.L1.Pre : lread.L1.D → Prop := fun (b, n, i, t, j, m1, m2, x, r, ks, bs) => RdrB r ∧ ks.length = m2 ∧ m2 ≤ 1000 ∧ ∃ k c : Nat, j = k ∧ t = c ∧ k ≤ c ∧ c ≤ 12 ∧ m2 = k
def lread.L1.F : lread.L1.D → lread.L1.Y := fun (b, n, i, t, j, m1, m2, x, r, ks, bs) => (m2 + (t - j).toNat, (keysR (t - j).toNat r).2, ks ++ (keysR (t - j).toNat r).1)
def lread.L0.Pre : lread.L0.D → Prop := fun (b, n, i, m, r, bs) => RdrB r ∧ n ≤ 9223372036854775807 ∧ bs.length = m ∧ ∃ k : Nat, i = k ∧ k ≤ 4 ∧ m = k
def lread.L0.F : lread.L0.D → lread.L0.Y := fun (b, n, i, m, r, bs) => (b, m + (brsC (5 - i.toNat) (n - i) r).length, bs ++ brsC (5 - i.toNat) (n - i) r)
def lread.Pre : lread.D → Prop := fun b => Bytes b ∧ b.length ≤ 1000000000
def lread.F : lread.D → lread.Y := fun b => readL b

noncomputable def lread.G : Gam := gcons 22 anyArgs ropen.E (gcons 23 anyArgs rnum.E (gcons 24 anyArgs ru64.E (gcons 14 anyArgs lright.E (gcons 21 anyArgs lbytes.E (gcons 50 anyArgs beq8.E (gnil))))))
noncomputable def lread.L0.E : LEntry := LEntry.of lread.L0.st lread.L0.Pre (fun d => lread.L0.add d (lread.L0.F d)) lread.L0.out
noncomputable def lread.L0.call : lread.L0.D → Option lread.L0.X := fun d => lread.L0.E.run (lread.L0.st d)
noncomputable def lread.L1.E : LEntry := LEntry.of lread.L1.st lread.L1.Pre (fun d => lread.L1.add d (lread.L1.F d)) lread.L1.out
noncomputable def lread.L1.call : lread.L1.D → Option lread.L1.X := fun d => lread.L1.E.run (lread.L1.st d)
noncomputable def lread.an : Ann := {
  objs := [],
  loops := fun r => bif Nat.beq r 5 then { keep := [0, 2, 4, 5, 6, 7], sites := [2, 5, 11, 51], frz := [], data := [], owns := [⟨5, [.fst], 51, 22⟩] } else bif Nat.beq r 11 then { keep := [0, 2, 4, 5, 6, 7, 8, 27, 28], sites := [2, 5, 8, 11, 35, 51], frz := [], data := [], owns := [⟨8, [.fst], 35, 41⟩] } else { keep := [], sites := [], frz := [], data := [], owns := [] },
  outs := fun r b => bif Nat.beq r 5 then (bif b then { keep := [2, 3], sites := [], frz := [], data := [], owns := [] } else { keep := [0, 2, 5], sites := [2, 5, 51], frz := [], data := [], owns := [] }) else bif Nat.beq r 11 then (bif b then { keep := [2, 3], sites := [], frz := [], data := [], owns := [] } else { keep := [0, 2, 4, 5, 6, 7, 8], sites := [2, 5, 8, 11, 35, 51], frz := [], data := [], owns := [] }) else { keep := [], sites := [], frz := [], data := [], owns := [] },
  sums := fun r => bif Nat.beq r 5 then some lread.L0.E else bif Nat.beq r 11 then some lread.L1.E else none,
  owns := [],
  trim := [],
  res := [some (.pair (.slice (.pair (.slice (.int .u64)) (.pair (.int .i64) (.pair (.int .i64) (.pair (.int .u64) .unit))))) .unit), none] }
theorem lread.L0.inj : ∀ d d', lread.L0.st d = lread.L0.st d' → d = d' := fun (b_2, n, i, n5L, n11, n51) (b_2', n', i', n5L', n11', n51') hEq => by
  have e0 : b_2 = b_2' := d_inj (t := (.slice (.int .u8))) (congrArg (fun s : AS => (s.slot 0)) hEq)
  have e1 : n = n' := d_inj (t := (.int .i64)) (congrArg (fun s : AS => (s.slot 6)) hEq)
  have e2 : i = i' := d_inj (t := (.int .i64)) (congrArg (fun s : AS => (s.slot 7)) hEq)
  have e3 : n5L = n5L' := congrArg (fun s : AS => srefLen (prA (entC (s.ent (.new 5 0))))) hEq
  have e4 : n11 = n11' := d_inj (t := (.pair (.slice (.int .u8)) (.pair .bool .unit))) (congrArg (fun s : AS => (entC (s.ent (.new 11 0)))) hEq)
  have e5 : n51 = n51' := vec_inj (e := 43) (t := (.pair (.slice (.int .u64)) (.pair (.int .i64) (.pair (.int .i64) (.pair (.int .u64) .unit))))) (congrArg (fun s : AS => (entC (s.ent (.new 51 0)))) hEq)
  rw [e0, e1, e2, e3, e4, e5]
theorem lread.L0.run {d : lread.L0.D} (h : lread.L0.Pre d) : lread.L0.call d = some (lread.L0.add d (lread.L0.F d)) := LEntry.of_run lread.L0.inj h
theorem lread.L0.byRounds (μ : lread.L0.D → Nat) (h : ∀ d, lread.L0.Pre d → (∃ d', lread.L0.Pre d' ∧ μ d' < μ d ∧ lread.L0.add d' (lread.L0.F d') = lread.L0.add d (lread.L0.F d) ∧ ∀ {R : Type} (kn : AS → Option R) (kx : Exit → AS → Option R), lround Try.prog lread.G lread.an 0 Try.f29 0 (lread.L0.st d) kn kx = kn (lread.L0.st d')) ∨ (∀ {R : Type} (kn : AS → Option R) (kx : Exit → AS → Option R), lround Try.prog lread.G lread.an 0 Try.f29 0 (lread.L0.st d) kn kx = kx (lread.L0.ex0 (lread.L0.add d (lread.L0.F d))).1 (lread.L0.ex0 (lread.L0.add d (lread.L0.F d))).2)) : ∀ d, lread.L0.Pre d → ∃ n, lrun Try.prog lread.G lread.an 0 Try.f29 0 n (lread.L0.st d) (fun e s => some (e, s)) = (lread.L0.out (lread.L0.add d (lread.L0.F d))).eval := lrun_one (F := fun d => lread.L0.add d (lread.L0.F d)) μ h
theorem lread.L0.step {R : Type} (b_2 : (List Int)) (n : Int) (i : Int) (n5L : Nat) (n11 : ((List Int) × (Bool × Unit))) (n51 : (List ((List Int) × (Int × (Int × (Int × Unit)))))) (kn : AS → Option R) (kx : Exit → AS → Option R) : lround Try.prog lread.G lread.an 0 Try.f29 0 (lread.L0.st (b_2, n, i, n5L, n11, n51)) kn kx =
  sel ((ilt i n)) (
   obind (rnum.call n11) fun x22 =>
   sel ((ieq i (4 : Int))) (
    kx (lread.L0.ex0 (b_2, n5L, n51)).1 (lread.L0.ex0 (b_2, n5L, n51)).2) (
    sel ((igt x22.1 (12 : Int))) (
     kx (lread.L0.ex0 (b_2, n5L, n51)).1 (lread.L0.ex0 (b_2, n5L, n51)).2) (
     obind (lread.L1.call (b_2, n, i, x22.1, (0 : Int), n5L, 0, ((0 : Int), ((0 : Int), ((0 : Int), ()))), x22.2, ([] : List Int), n51)) fun x24 =>
     obind (rnum.call x24.2.2.1) fun x31 =>
     obind (rnum.call x31.2) fun x32 =>
     obind (ru64.call x32.2) fun x36 =>
     sel (decide (0 = 0 ∧ (0 + x24.2.1) ≤ (List.length x24.2.2.2))) (
     sel (decide (x24.1.2.2.2.1 ≤ (List.length x24.1.2.2.2.2.2))) (
     sel (roomA (x24.1.2.2.2.1 + 1) 48) (
     kn (lread.L0.st (x24.1.1, x24.1.2.1, (iadd .i64 x24.1.2.2.1 (1 : Int)), (x24.1.2.2.2.1 + 1), x36.2, ((List.take x24.1.2.2.2.1 x24.1.2.2.2.2.2) ++ [((cut x24.2.2.2 0 x24.2.1), (x31.1, (x32.1, (x36.1, x24.1.2.2.2.2.1.2.2.2))))])))) none) none) none))) (
   kx (lread.L0.ex0 (b_2, n5L, n51)).1 (lread.L0.ex0 (b_2, n5L, n51)).2) := by kernel_rfl
theorem lread.L1.inj : ∀ d d', lread.L1.st d = lread.L1.st d' → d = d' := fun (b_3, n_2, i_2, t27, t28, n5L_2, n8L, n8, n11_2, n35, n51_2) (b_3', n_2', i_2', t27', t28', n5L_2', n8L', n8', n11_2', n35', n51_2') hEq => by
  have e0 : b_3 = b_3' := d_inj (t := (.slice (.int .u8))) (congrArg (fun s : AS => (s.slot 0)) hEq)
  have e1 : n_2 = n_2' := d_inj (t := (.int .i64)) (congrArg (fun s : AS => (s.slot 6)) hEq)
  have e2 : i_2 = i_2' := d_inj (t := (.int .i64)) (congrArg (fun s : AS => (s.slot 7)) hEq)
  have e3 : t27 = t27' := d_inj (t := (.int .i64)) (congrArg (fun s : AS => (s.slot 27)) hEq)
  have e4 : t28 = t28' := d_inj (t := (.int .i64)) (congrArg (fun s : AS => (s.slot 28)) hEq)
  have e5 : n5L_2 = n5L_2' := congrArg (fun s : AS => srefLen (prA (entC (s.ent (.new 5 0))))) hEq
  have e6 : n8L = n8L' := congrArg (fun s : AS => srefLen (prA (entC (s.ent (.new 8 0))))) hEq
  have e7 : n8 = n8' := d_inj (t := (.pair (.int .i64) (.pair (.int .i64) (.pair (.int .u64) .unit)))) (congrArg (fun s : AS => (prB (entC (s.ent (.new 8 0))))) hEq)
  have e8 : n11_2 = n11_2' := d_inj (t := (.pair (.slice (.int .u8)) (.pair .bool .unit))) (congrArg (fun s : AS => (entC (s.ent (.new 11 0)))) hEq)
  have e9 : n35 = n35' := vec_inj (e := 39) (t := (.int .u64)) (congrArg (fun s : AS => (entC (s.ent (.new 35 0)))) hEq)
  have e10 : n51_2 = n51_2' := vec_inj (e := 43) (t := (.pair (.slice (.int .u64)) (.pair (.int .i64) (.pair (.int .i64) (.pair (.int .u64) .unit))))) (congrArg (fun s : AS => (entC (s.ent (.new 51 0)))) hEq)
  rw [e0, e1, e2, e3, e4, e5, e6, e7, e8, e9, e10]
theorem lread.L1.run {d : lread.L1.D} (h : lread.L1.Pre d) : lread.L1.call d = some (lread.L1.add d (lread.L1.F d)) := LEntry.of_run lread.L1.inj h
theorem lread.L1.byRounds (μ : lread.L1.D → Nat) (h : ∀ d, lread.L1.Pre d → (∃ d', lread.L1.Pre d' ∧ μ d' < μ d ∧ lread.L1.add d' (lread.L1.F d') = lread.L1.add d (lread.L1.F d) ∧ ∀ {R : Type} (kn : AS → Option R) (kx : Exit → AS → Option R), lround Try.prog lread.G lread.an 0 Try.f29 1 (lread.L1.st d) kn kx = kn (lread.L1.st d')) ∨ (∀ {R : Type} (kn : AS → Option R) (kx : Exit → AS → Option R), lround Try.prog lread.G lread.an 0 Try.f29 1 (lread.L1.st d) kn kx = kx (lread.L1.ex0 (lread.L1.add d (lread.L1.F d))).1 (lread.L1.ex0 (lread.L1.add d (lread.L1.F d))).2)) : ∀ d, lread.L1.Pre d → ∃ n, lrun Try.prog lread.G lread.an 0 Try.f29 1 n (lread.L1.st d) (fun e s => some (e, s)) = (lread.L1.out (lread.L1.add d (lread.L1.F d))).eval := lrun_one (F := fun d => lread.L1.add d (lread.L1.F d)) μ h
theorem lread.L1.step {R : Type} (b_3 : (List Int)) (n_2 : Int) (i_2 : Int) (t27 : Int) (t28 : Int) (n5L_2 : Nat) (n8L : Nat) (n8 : (Int × (Int × (Int × Unit)))) (n11_2 : ((List Int) × (Bool × Unit))) (n35 : (List Int)) (n51_2 : (List ((List Int) × (Int × (Int × (Int × Unit)))))) (kn : AS → Option R) (kx : Exit → AS → Option R) : lround Try.prog lread.G lread.an 0 Try.f29 1 (lread.L1.st (b_3, n_2, i_2, t27, t28, n5L_2, n8L, n8, n11_2, n35, n51_2)) kn kx =
  sel ((ilt t28 t27)) (
   obind (ru64.call n11_2) fun x4 =>
   sel (decide (n8L ≤ (List.length n35))) (
   sel (roomA (n8L + 1) 8) (
   kn (lread.L1.st (b_3, n_2, i_2, t27, (iadd .i64 t28 (1 : Int)), n5L_2, (n8L + 1), n8, x4.2, ((List.take n8L n35) ++ [x4.1]), n51_2))) none) none) (
   kx (lread.L1.ex0 ((b_3, n_2, i_2, n5L_2, n8, n51_2), (n8L, n11_2, n35))).1 (lread.L1.ex0 ((b_3, n_2, i_2, n5L_2, n8, n51_2), (n8L, n11_2, n35))).2) := by kernel_rfl
theorem lread.eq {R : Type} (b : (List Int)) (k : GRes → Option R) : arun Try.prog lread.G lread.an 0 Try.f29 (lread.st b).1 (lread.st b).2 k =
  obind (ropen.call b) fun x4 =>
  obind (rnum.call x4) fun x6 =>
  obind (lread.L0.call (b, x6.1, (0 : Int), 0, x6.2, ([] : List ((List Int) × (Int × (Int × (Int × Unit))))))) fun x96 =>
  sel (decide (0 = 0 ∧ (0 + x96.2.1) ≤ (List.length x96.2.2))) (
  obind (lright.call ((cut x96.2.2 0 x96.2.1), ())) fun x106 =>
  sel ((!x106)) (
   k (lread.out ((([] : List ((List Int) × (Int × (Int × (Int × Unit))))), ()), false))) (
   sel (decide (0 = 0 ∧ (0 + x96.2.1) ≤ (List.length x96.2.2))) (
   obind (lbytes.call ((cut x96.2.2 0 x96.2.1), ())) fun x107 =>
   obind (beq8.call (x107, x96.1)) fun x108 =>
   sel ((!x108)) (
    k (lread.out ((([] : List ((List Int) × (Int × (Int × (Int × Unit))))), ()), false))) (
    sel (decide (0 = 0 ∧ (0 + x96.2.1) ≤ (List.length x96.2.2))) (
    k (lread.out (((cut x96.2.2 0 x96.2.1), ()), true))) none)) none)) none := by kernel_rfl


theorem lread.L1.ok : ∀ d, lread.L1.Pre d → ∃ n, lrun Try.prog lread.G lread.an 0 Try.f29 1 n (lread.L1.st d) (fun e s => some (e, s)) = (lread.L1.out (lread.L1.add d (lread.L1.F d))).eval := by
  refine lread.L1.byRounds (fun (b, n, i, t, j, m1, m2, x, r, ks, bs) => (t - j).toNat) ?_
  rintro ⟨b, n, i, t, j, m1, m2, x, r, ks, bs⟩ ⟨hr, hks, hm, k, c, rfl, rfl, hkc, hc, hmk⟩
  have hr : RdrB r := hr
  have hks : ks.length = m2 := hks
  have hmk : m2 = k := hmk
  by_cases h : k < c
  · left
    have e1 : ((c : Int) - (k : Int)).toNat = (c - (k + 1)) + 1 := by omega
    have e2 : ((c : Int) - ((k + 1 : Nat) : Int)).toNat = c - (k + 1) := by omega
    refine ⟨(b, n, i, (c : Int), ((k + 1 : Nat) : Int), m1, m2 + 1, x, (u64R r).2, ks ++ [(u64R r).1], bs), ⟨(u64R_u hr).2, by rw [List.length_append]; show ks.length + 1 = _; omega, by omega, k + 1, c, rfl, rfl, by omega, hc, by omega⟩, by show ((c : Int) - ((k + 1 : Nat) : Int)).toNat < ((c : Int) - (k : Int)).toNat; omega, ?_, fun kn kx => ?_⟩
    · simp only [lread.L1.add, lread.L1.F, e1, e2, keysR, List.append_assoc, List.singleton_append]
      rw [show m2 + 1 + (c - (k + 1)) = m2 + (c - (k + 1) + 1) by omega]
    · rw [lread.L1.step, ilt_true (by omega), ru64.run (d := r) hr]
      simp only [obind_some, sel_true, ru64.add, ru64.F]
      rw [dec_true (by omega), room_true (by omega) (by omega), N.aNL (by omega), List.take_of_length_le (by omega)]
      rfl
  · right
    obtain rfl : k = c := by omega
    intro R kn kx
    rw [lread.L1.step, ilt_false (by omega), sel_false]
    simp only [lread.L1.add, lread.L1.F, Int.sub_self, Int.toNat_zero, keysR, List.append_nil, Nat.add_zero]
theorem lread.L0.ok : ∀ d, lread.L0.Pre d → ∃ n, lrun Try.prog lread.G lread.an 0 Try.f29 0 n (lread.L0.st d) (fun e s => some (e, s)) = (lread.L0.out (lread.L0.add d (lread.L0.F d))).eval := by
  refine lread.L0.byRounds (fun (b, n, i, m, r, bs) => 5 - i.toNat) ?_
  rintro ⟨b, n, i, m, r, bs⟩ ⟨hr, hn, hbs, k, rfl, hk, hmk⟩
  have hr : RdrB r := hr
  have hn : n ≤ 9223372036854775807 := hn
  have hbs : bs.length = m := hbs
  have hmk : m = k := hmk
  have e0 : 5 - (k : Int).toNat = (4 - k) + 1 := by rw [Int.toNat_natCast]; omega
  have g1 := numR_ok hr
  by_cases h : (k : Int) < n
  · have hp : 0 < n - (k : Int) := by omega
    by_cases hc : 4 - k = 0 ∨ 12 < (numR r).1
    · right
      intro R kn kx
      have eb : brsC ((4 - k) + 1) (n - (k : Int)) r = [] := by rw [brsC, if_pos hp, if_pos hc]
      rw [lread.L0.step, ilt_true h, rnum.run (d := r) hr]
      simp only [obind_some, sel_true, rnum.add, rnum.F, lread.L0.add, lread.L0.F, e0, eb, List.length_nil, Nat.add_zero, List.append_nil]
      by_cases h4 : (k : Int) = 4
      · rw [ieq_true h4, sel_true]
      · rw [ieq_false h4, sel_false, igt_true (by omega), sel_true]
    · left
      have h4 : ¬ (k : Int) = 4 := by omega
      have hkn : ¬ (numR r).1 > 12 := by omega
      obtain ⟨c, hcn⟩ : ∃ c : Nat, (numR r).1 = c := ⟨(numR r).1.toNat, by omega⟩
      have hbd := bodyR_b c _ g1.2.2
      have gk := keysR_b c _ g1.2.2
      have ga := numR_ok gk.2.2
      have gd := numR_ok ga.2.2
      have eb : brsC ((4 - k) + 1) (n - (k : Int)) r = (bodyR c (numR r).2).1 :: brsC (4 - k) (n - (k : Int) - 1) (bodyR c (numR r).2).2 := by
        rw [brsC, if_pos hp, if_neg hc, hcn, Int.toNat_natCast]
      have e1 : 5 - ((k + 1 : Nat) : Int).toNat = 4 - k := by rw [Int.toNat_natCast]; omega
      refine ⟨(b, n, ((k + 1 : Nat) : Int), m + 1, (bodyR c (numR r).2).2, bs ++ [(bodyR c (numR r).2).1]), ⟨hbd.2.2, hn, by rw [List.length_append]; show bs.length + 1 = _; omega, k + 1, rfl, by omega, by omega⟩, by simp only [Int.toNat_natCast]; omega, ?_, fun kn kx => ?_⟩
      · simp only [lread.L0.add, lread.L0.F, e0, e1, eb, List.append_assoc, List.singleton_append, List.length_cons]
        rw [show n - ((k + 1 : Nat) : Int) = n - (k : Int) - 1 by omega, show m + 1 + (brsC (4 - k) (n - (k : Int) - 1) (bodyR c (numR r).2).2).length = m + ((brsC (4 - k) (n - (k : Int) - 1) (bodyR c (numR r).2).2).length + 1) by omega]
      · rw [lread.L0.step, ilt_true h, rnum.run (d := r) hr]
        simp only [obind_some, sel_true, rnum.add, rnum.F]
        rw [ieq_false h4, sel_false, igt_false hkn, sel_false, hcn, lread.L1.run (d := (b, n, (k : Int), (c : Int), 0, m, 0, (0, 0, 0, ()), (numR r).2, [], bs)) ⟨g1.2.2, rfl, by decide, 0, c, rfl, rfl, Nat.zero_le _, by omega, rfl⟩]
        simp only [obind_some, lread.L1.add, lread.L1.F, Int.sub_zero, Int.toNat_natCast, Nat.zero_add, List.nil_append]
        rw [rnum.run (d := (keysR c (numR r).2).2) gk.2.2]
        simp only [obind_some, rnum.add, rnum.F]
        rw [rnum.run (d := (numR (keysR c (numR r).2).2).2) ga.2.2]
        simp only [obind_some, rnum.add, rnum.F]
        rw [ru64.run (d := (numR (numR (keysR c (numR r).2).2).2).2) gd.2.2]
        simp only [obind_some, ru64.add, ru64.F]
        rw [dec_true ⟨by trivial, by rw [gk.2.1]; exact Nat.le_refl _⟩, dec_true (by omega), room_true (by omega) (by omega), N.aNL (by omega), List.take_of_length_le (by omega), cut_len gk.2.1]
        rfl
  · right
    intro R kn kx
    have eb : brsC ((4 - k) + 1) (n - (k : Int)) r = [] := by rw [brsC, if_neg (by omega)]
    rw [lread.L0.step, ilt_false h, sel_false]
    simp only [lread.L0.add, lread.L0.F, e0, eb, List.length_nil, Nat.add_zero, List.append_nil]
theorem lread.ok : ∀ d, lread.Pre d → arun Try.prog lread.G lread.an 0 Try.f29 (lread.st d).1 (lread.st d).2 some = some (lread.out (lread.add d (lread.F d))) := by
  rintro b ⟨hb, hl⟩
  have hb : Bytes b := hb
  have hl : b.length ≤ 1000000000 := hl
  have g0 := rdr_of hb hl (false, ())
  have g1 := numR_ok g0
  have gu := readC_u hb hl
  rw [lread.eq, ropen.run (d := b) hl]
  simp only [obind_some, ropen.add, ropen.F]
  rw [rnum.run (d := (b, false, ())) g0]
  simp only [obind_some, rnum.add, rnum.F]
  rw [lread.L0.run (d := (b, (numR (b, false, ())).1, 0, 0, (numR (b, false, ())).2, [])) ⟨g1.2.2, g1.2.1, rfl, 0, rfl, by decide, rfl⟩]
  simp only [obind_some, lread.L0.add, lread.L0.F, Int.toNat_zero, Nat.sub_zero, Int.sub_zero, Nat.zero_add, List.nil_append, Nat.le_refl, and_self, decide_true, sel_true, cut_len]
  rw [show brsC 5 (numR (b, false, ())).1 (numR (b, false, ())).2 = readC b from rfl]
  have hL1 : ((readC b, ()) : Lk).1.length ≤ 1000000000 := by show (readC b).length ≤ _; omega
  rw [lright.run (d := (readC b, ())) ⟨gu.1, hL1⟩]
  simp only [obind_some, lright.add, lright.F, lread.add, lread.F, readL]
  cases hok : lkOk (readC b, ())
  · rw [if_neg (by rintro ⟨x, _⟩; cases x)]; rfl
  · rw [lbytes.run (d := (readC b, ())) ⟨gu.1, hL1⟩]
    simp only [Bool.not_true, sel_false, obind_some, lbytes.add, lbytes.F]
    rw [beq8.run (d := (lkB (readC b, ()), b)) (by show (lkB _).length ≤ _; have := lkB_len (readC b, ()); omega)]
    simp only [obind_some, beq8.add, beq8.F]
    by_cases hx : lkB (readC b, ()) = b
    · rw [dec_true hx, if_pos ⟨by trivial, hx⟩]; rfl
    · rw [dec_false hx, if_neg (fun y => hx y.2)]; rfl

theorem lread.inj : ∀ d d', lread.st d = lread.st d' → d = d' := fun b b' hEq => by
  have e0 : b = b' := d_inj (t := (.slice (.int .u8))) (congrArg (fun s : List AVal × List Ent => (s.1.getD 0 .undef)) hEq)
  rw [e0]
noncomputable def lread.E : Entry := Entry.of [some (.slice (.int .u8))] lread.st lread.Pre (fun d => lread.add d (lread.F d)) lread.out
noncomputable def lread.call : lread.D → Option lread.X := fun d => lread.E.run (lread.st d).1 (lread.st d).2
theorem lread.run {d : lread.D} (h : lread.Pre d) : lread.call d = some (lread.add d (lread.F d)) := Entry.of_run lread.inj h
theorem lread.does : Does Try.prog 29 lread.E := Does.of (by kernel_rfl) (show Sound _ lread.G from Sound.cons ropen.does (Sound.cons rnum.does (Sound.cons ru64.does (Sound.cons lright.does (Sound.cons lbytes.does (Sound.cons beq8.does (Sound.nil _))))))) (by kernel_rfl) (by kernel_rfl) (by kernel_rfl) (LOk.fn 2 (by kernel_rfl) (And.intro (LDo.of (by kernel_rfl) lread.L0.ok) (And.intro (LDo.of (by kernel_rfl) lread.L1.ok) trivial))) lread.ok

end Go.Ab
