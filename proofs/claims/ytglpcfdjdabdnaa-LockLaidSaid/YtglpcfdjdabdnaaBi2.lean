/-
  Made by a program of mine (wip/gen), and by hand.
-/
import Derived.Test.YtglpcfdjdabdnaaBi1
namespace Go.Ab
open Go.Proofs
set_option maxRecDepth 100000
set_option linter.unusedVariables false
set_option linter.unusedSimpArgs false

/-! ### math/bits.Div64 -/
abbrev div64.L0.D := Int × Int × Int × Int × Int × Int × Int × Int × Int
def div64.L0.st : div64.L0.D → AS := fun (yv_2, sv, yn1, yn0, un32, un1, un0, q1, rhat) => ⟨([.undef, .undef, .d (.int .u64) yv_2] ++ undN 5 ([.d (.int .u64) sv, .d (.int .u64) yn1, .d (.int .u64) yn0, .d (.int .u64) un32, .undef, .d (.int .u64) un1, .d (.int .u64) un0, .d (.int .u64) q1, .d (.int .u64) rhat] ++ undN 118 [])), [], (List.replicate 135 [])⟩
abbrev div64.L0.Y0 := Int  -- q1
abbrev div64.L0.X0 := (Int × Int × Int × Int × Int × Int × Int) × (Int)
def div64.L0.ex0 : div64.L0.X0 → Exit × AS := fun x => (.exit 0, ⟨([.undef, .undef, .d (.int .u64) x.1.1] ++ undN 5 ([.d (.int .u64) x.1.2.1, .d (.int .u64) x.1.2.2.1, .d (.int .u64) x.1.2.2.2.1, .d (.int .u64) x.1.2.2.2.2.1, .undef, .d (.int .u64) x.1.2.2.2.2.2.1, .d (.int .u64) x.1.2.2.2.2.2.2, .d (.int .u64) x.2] ++ undN 119 [])), [], (List.replicate 135 [])⟩)
abbrev div64.L0.X := div64.L0.X0
abbrev div64.L0.Y := div64.L0.Y0
def div64.L0.out : div64.L0.X → Out (Exit × AS) := fun x => .ok (div64.L0.ex0 x)
def div64.L0.add : div64.L0.D → div64.L0.Y → div64.L0.X := fun (yv_2, sv, yn1, yn0, un32, un1, un0, q1, rhat) y => ((yv_2, sv, yn1, yn0, un32, un1, un0), y)
abbrev div64.L1.D := Int × Int × Int × Int × Int × Int × Int × Int × Int
def div64.L1.st : div64.L1.D → AS := fun (yv_3, sv_2, yn1_2, yn0_2, un0_2, q1_2, rhat_2, un21, q0) => ⟨([.undef, .undef, .d (.int .u64) yv_3] ++ undN 5 ([.d (.int .u64) sv_2, .d (.int .u64) yn1_2, .d (.int .u64) yn0_2, .undef, .undef, .undef, .d (.int .u64) un0_2, .d (.int .u64) q1_2, .d (.int .u64) rhat_2, .d (.int .u64) un21, .d (.int .u64) q0] ++ undN 116 [])), [], (List.replicate 135 [])⟩
abbrev div64.L1.Y0 := Int  -- q0
abbrev div64.L1.X0 := (Int × Int × Int × Int × Int) × (Int)
def div64.L1.ex0 : div64.L1.X0 → Exit × AS := fun x => (.exit 2, ⟨([.undef, .undef, .d (.int .u64) x.1.1] ++ undN 5 ([.d (.int .u64) x.1.2.1] ++ undN 5 ([.d (.int .u64) x.1.2.2.1, .d (.int .u64) x.1.2.2.2.1, .undef, .d (.int .u64) x.1.2.2.2.2, .d (.int .u64) x.2] ++ undN 116 []))), [], (List.replicate 135 [])⟩)
abbrev div64.L1.X := div64.L1.X0
abbrev div64.L1.Y := div64.L1.Y0
def div64.L1.out : div64.L1.X → Out (Exit × AS) := fun x => .ok (div64.L1.ex0 x)
def div64.L1.add : div64.L1.D → div64.L1.Y → div64.L1.X := fun (yv_3, sv_2, yn1_2, yn0_2, un0_2, q1_2, rhat_2, un21, q0) y => ((yv_3, sv_2, un0_2, q1_2, un21), y)
abbrev div64.D := Int × Int × Int
def div64.st : div64.D → List AVal × List Ent := fun (hi, lo, yv) => ([.d (.int .u64) hi, .d (.int .u64) lo, .d (.int .u64) yv], [])
abbrev div64.Y := Int × Int
abbrev div64.X := Int × Int
def div64.out : div64.X → GRes := fun x => ⟨.cons (.d (.int .u64) x.1) (.cons (.d (.int .u64) x.2) (.nil)), [], []⟩
def div64.add : div64.D → div64.Y → div64.X := fun (hi, lo, yv) y => y


def div64.L0.Pre : div64.L0.D → Prop := fun (y, sv, yn1, yn0, u, w, un0, q, r) => ∃ e : Int, (e = 42260 ∨ e = 42264 ∨ e = 42272) ∧ y = 18446744073709551616 - e ∧ yn1 = 4294967295 ∧ yn0 = 4294967296 - e ∧ 0 ≤ u ∧ u < 18446744073709551616 - e ∧ 0 ≤ w ∧ w < 4294967296 ∧ 0 ≤ r ∧ r < 4294967296 ∧ q * 4294967295 + r = u ∧ (u * 4294967296 + w) / (18446744073709551616 - e) ≤ q
def div64.L0.F : div64.L0.D → div64.L0.Y := fun (y, sv, yn1, yn0, u, w, un0, q, r) => (u * 4294967296 + w) / y
def div64.L1.Pre : div64.L1.D → Prop := fun (y, sv, yn1, yn0, w, q1, r, u, q) => ∃ e : Int, (e = 42260 ∨ e = 42264 ∨ e = 42272) ∧ y = 18446744073709551616 - e ∧ yn1 = 4294967295 ∧ yn0 = 4294967296 - e ∧ 0 ≤ u ∧ u < 18446744073709551616 - e ∧ 0 ≤ w ∧ w < 4294967296 ∧ 0 ≤ r ∧ r < 4294967296 ∧ q * 4294967295 + r = u ∧ (u * 4294967296 + w) / (18446744073709551616 - e) ≤ q
def div64.L1.F : div64.L1.D → div64.L1.Y := fun (y, sv, yn1, yn0, w, q1, r, u, q) => (u * 4294967296 + w) / y
def div64.Pre : div64.D → Prop := fun (hi, lo, y) => isY y ∧ 0 ≤ hi ∧ hi < y ∧ 0 ≤ lo ∧ lo < 18446744073709551616
def div64.F : div64.D → div64.Y := fun (hi, lo, y) => ((hi * 18446744073709551616 + lo) / y, (hi * 18446744073709551616 + lo) % y)

noncomputable def div64.G : Gam := gcons 100 anyArgs lz64.E (gnil)
noncomputable def div64.L0.E : LEntry := LEntry.of div64.L0.st div64.L0.Pre (fun d => div64.L0.add d (div64.L0.F d)) div64.L0.out
noncomputable def div64.L0.call : div64.L0.D → Option div64.L0.X := fun d => div64.L0.E.run (div64.L0.st d)
noncomputable def div64.L1.E : LEntry := LEntry.of div64.L1.st div64.L1.Pre (fun d => div64.L1.add d (div64.L1.F d)) div64.L1.out
noncomputable def div64.L1.call : div64.L1.D → Option div64.L1.X := fun d => div64.L1.E.run (div64.L1.st d)
noncomputable def div64.an : Ann := {
  objs := [],
  loops := fun r => bif Nat.beq r 17 then { keep := [2, 8, 9, 10, 11, 13, 14, 15, 16], sites := [], frz := [], data := [], owns := [] } else bif Nat.beq r 24 then { keep := [2, 8, 9, 10, 14, 15, 16, 17, 18], sites := [], frz := [], data := [], owns := [] } else { keep := [], sites := [], frz := [], data := [], owns := [] },
  outs := fun r b => bif Nat.beq r 17 then (bif b then { keep := [6, 7], sites := [], frz := [], data := [], owns := [] } else { keep := [2, 8, 9, 10, 11, 13, 14, 15], sites := [], frz := [], data := [], owns := [] }) else bif Nat.beq r 24 then (bif b then { keep := [6, 7], sites := [], frz := [], data := [], owns := [] } else { keep := [2, 8, 14, 15, 17, 18], sites := [], frz := [], data := [], owns := [] }) else { keep := [], sites := [], frz := [], data := [], owns := [] },
  sums := fun r => bif Nat.beq r 17 then some div64.L0.E else bif Nat.beq r 24 then some div64.L1.E else none,
  owns := [],
  trim := [],
  res := [] }
theorem div64.L0.inj : ∀ d d', div64.L0.st d = div64.L0.st d' → d = d' := fun (yv_2, sv, yn1, yn0, un32, un1, un0, q1, rhat) (yv_2', sv', yn1', yn0', un32', un1', un0', q1', rhat') hEq => by
  have e0 : yv_2 = yv_2' := d_inj (t := (.int .u64)) (congrArg (fun s : AS => (s.slot 2)) hEq)
  have e1 : sv = sv' := d_inj (t := (.int .u64)) (congrArg (fun s : AS => (s.slot 8)) hEq)
  have e2 : yn1 = yn1' := d_inj (t := (.int .u64)) (congrArg (fun s : AS => (s.slot 9)) hEq)
  have e3 : yn0 = yn0' := d_inj (t := (.int .u64)) (congrArg (fun s : AS => (s.slot 10)) hEq)
  have e4 : un32 = un32' := d_inj (t := (.int .u64)) (congrArg (fun s : AS => (s.slot 11)) hEq)
  have e5 : un1 = un1' := d_inj (t := (.int .u64)) (congrArg (fun s : AS => (s.slot 13)) hEq)
  have e6 : un0 = un0' := d_inj (t := (.int .u64)) (congrArg (fun s : AS => (s.slot 14)) hEq)
  have e7 : q1 = q1' := d_inj (t := (.int .u64)) (congrArg (fun s : AS => (s.slot 15)) hEq)
  have e8 : rhat = rhat' := d_inj (t := (.int .u64)) (congrArg (fun s : AS => (s.slot 16)) hEq)
  rw [e0, e1, e2, e3, e4, e5, e6, e7, e8]
theorem div64.L0.run {d : div64.L0.D} (h : div64.L0.Pre d) : div64.L0.call d = some (div64.L0.add d (div64.L0.F d)) := LEntry.of_run div64.L0.inj h
theorem div64.L0.byRounds (μ : div64.L0.D → Nat) (h : ∀ d, div64.L0.Pre d → (∃ d', div64.L0.Pre d' ∧ μ d' < μ d ∧ div64.L0.add d' (div64.L0.F d') = div64.L0.add d (div64.L0.F d) ∧ ∀ {R : Type} (kn : AS → Option R) (kx : Exit → AS → Option R), lround Try.prog div64.G div64.an 0 Try.f96 0 (div64.L0.st d) kn kx = kn (div64.L0.st d')) ∨ (∀ {R : Type} (kn : AS → Option R) (kx : Exit → AS → Option R), lround Try.prog div64.G div64.an 0 Try.f96 0 (div64.L0.st d) kn kx = kx (div64.L0.ex0 (div64.L0.add d (div64.L0.F d))).1 (div64.L0.ex0 (div64.L0.add d (div64.L0.F d))).2)) : ∀ d, div64.L0.Pre d → ∃ n, lrun Try.prog div64.G div64.an 0 Try.f96 0 n (div64.L0.st d) (fun e s => some (e, s)) = (div64.L0.out (div64.L0.add d (div64.L0.F d))).eval := lrun_one (F := fun d => div64.L0.add d (div64.L0.F d)) μ h
theorem div64.L0.step {R : Type} (yv_2 : Int) (sv : Int) (yn1 : Int) (yn0 : Int) (un32 : Int) (un1 : Int) (un0 : Int) (q1 : Int) (rhat : Int) (kn : AS → Option R) (kx : Exit → AS → Option R) : lround Try.prog div64.G div64.an 0 Try.f96 0 (div64.L0.st (yv_2, sv, yn1, yn0, un32, un1, un0, q1, rhat)) kn kx =
  sel ((ige q1 (4294967296 : Int))) (
   sel ((ige (iadd .u64 rhat yn1) (4294967296 : Int))) (
    kx (div64.L0.ex0 ((yv_2, sv, yn1, yn0, un32, un1, un0), (isub .u64 q1 (1 : Int)))).1 (div64.L0.ex0 ((yv_2, sv, yn1, yn0, un32, un1, un0), (isub .u64 q1 (1 : Int)))).2) (
    kn (div64.L0.st (yv_2, sv, yn1, yn0, un32, un1, un0, (isub .u64 q1 (1 : Int)), (iadd .u64 rhat yn1))))) (
   sel ((igt (imul .u64 q1 yn0) (iadd .u64 (imul .u64 (4294967296 : Int) rhat) un1))) (
    sel ((ige (iadd .u64 rhat yn1) (4294967296 : Int))) (
     kx (div64.L0.ex0 ((yv_2, sv, yn1, yn0, un32, un1, un0), (isub .u64 q1 (1 : Int)))).1 (div64.L0.ex0 ((yv_2, sv, yn1, yn0, un32, un1, un0), (isub .u64 q1 (1 : Int)))).2) (
     kn (div64.L0.st (yv_2, sv, yn1, yn0, un32, un1, un0, (isub .u64 q1 (1 : Int)), (iadd .u64 rhat yn1))))) (
    kx (div64.L0.ex0 ((yv_2, sv, yn1, yn0, un32, un1, un0), q1)).1 (div64.L0.ex0 ((yv_2, sv, yn1, yn0, un32, un1, un0), q1)).2)) := by kernel_rfl
theorem div64.L1.inj : ∀ d d', div64.L1.st d = div64.L1.st d' → d = d' := fun (yv_3, sv_2, yn1_2, yn0_2, un0_2, q1_2, rhat_2, un21, q0) (yv_3', sv_2', yn1_2', yn0_2', un0_2', q1_2', rhat_2', un21', q0') hEq => by
  have e0 : yv_3 = yv_3' := d_inj (t := (.int .u64)) (congrArg (fun s : AS => (s.slot 2)) hEq)
  have e1 : sv_2 = sv_2' := d_inj (t := (.int .u64)) (congrArg (fun s : AS => (s.slot 8)) hEq)
  have e2 : yn1_2 = yn1_2' := d_inj (t := (.int .u64)) (congrArg (fun s : AS => (s.slot 9)) hEq)
  have e3 : yn0_2 = yn0_2' := d_inj (t := (.int .u64)) (congrArg (fun s : AS => (s.slot 10)) hEq)
  have e4 : un0_2 = un0_2' := d_inj (t := (.int .u64)) (congrArg (fun s : AS => (s.slot 14)) hEq)
  have e5 : q1_2 = q1_2' := d_inj (t := (.int .u64)) (congrArg (fun s : AS => (s.slot 15)) hEq)
  have e6 : rhat_2 = rhat_2' := d_inj (t := (.int .u64)) (congrArg (fun s : AS => (s.slot 16)) hEq)
  have e7 : un21 = un21' := d_inj (t := (.int .u64)) (congrArg (fun s : AS => (s.slot 17)) hEq)
  have e8 : q0 = q0' := d_inj (t := (.int .u64)) (congrArg (fun s : AS => (s.slot 18)) hEq)
  rw [e0, e1, e2, e3, e4, e5, e6, e7, e8]
theorem div64.L1.run {d : div64.L1.D} (h : div64.L1.Pre d) : div64.L1.call d = some (div64.L1.add d (div64.L1.F d)) := LEntry.of_run div64.L1.inj h
theorem div64.L1.byRounds (μ : div64.L1.D → Nat) (h : ∀ d, div64.L1.Pre d → (∃ d', div64.L1.Pre d' ∧ μ d' < μ d ∧ div64.L1.add d' (div64.L1.F d') = div64.L1.add d (div64.L1.F d) ∧ ∀ {R : Type} (kn : AS → Option R) (kx : Exit → AS → Option R), lround Try.prog div64.G div64.an 0 Try.f96 1 (div64.L1.st d) kn kx = kn (div64.L1.st d')) ∨ (∀ {R : Type} (kn : AS → Option R) (kx : Exit → AS → Option R), lround Try.prog div64.G div64.an 0 Try.f96 1 (div64.L1.st d) kn kx = kx (div64.L1.ex0 (div64.L1.add d (div64.L1.F d))).1 (div64.L1.ex0 (div64.L1.add d (div64.L1.F d))).2)) : ∀ d, div64.L1.Pre d → ∃ n, lrun Try.prog div64.G div64.an 0 Try.f96 1 n (div64.L1.st d) (fun e s => some (e, s)) = (div64.L1.out (div64.L1.add d (div64.L1.F d))).eval := lrun_one (F := fun d => div64.L1.add d (div64.L1.F d)) μ h
theorem div64.L1.step {R : Type} (yv_3 : Int) (sv_2 : Int) (yn1_2 : Int) (yn0_2 : Int) (un0_2 : Int) (q1_2 : Int) (rhat_2 : Int) (un21 : Int) (q0 : Int) (kn : AS → Option R) (kx : Exit → AS → Option R) : lround Try.prog div64.G div64.an 0 Try.f96 1 (div64.L1.st (yv_3, sv_2, yn1_2, yn0_2, un0_2, q1_2, rhat_2, un21, q0)) kn kx =
  sel ((ige q0 (4294967296 : Int))) (
   sel ((ige (iadd .u64 rhat_2 yn1_2) (4294967296 : Int))) (
    kx (div64.L1.ex0 ((yv_3, sv_2, un0_2, q1_2, un21), (isub .u64 q0 (1 : Int)))).1 (div64.L1.ex0 ((yv_3, sv_2, un0_2, q1_2, un21), (isub .u64 q0 (1 : Int)))).2) (
    kn (div64.L1.st (yv_3, sv_2, yn1_2, yn0_2, un0_2, q1_2, (iadd .u64 rhat_2 yn1_2), un21, (isub .u64 q0 (1 : Int)))))) (
   sel ((igt (imul .u64 q0 yn0_2) (iadd .u64 (imul .u64 (4294967296 : Int) rhat_2) un0_2))) (
    sel ((ige (iadd .u64 rhat_2 yn1_2) (4294967296 : Int))) (
     kx (div64.L1.ex0 ((yv_3, sv_2, un0_2, q1_2, un21), (isub .u64 q0 (1 : Int)))).1 (div64.L1.ex0 ((yv_3, sv_2, un0_2, q1_2, un21), (isub .u64 q0 (1 : Int)))).2) (
     kn (div64.L1.st (yv_3, sv_2, yn1_2, yn0_2, un0_2, q1_2, (iadd .u64 rhat_2 yn1_2), un21, (isub .u64 q0 (1 : Int)))))) (
    kx (div64.L1.ex0 ((yv_3, sv_2, un0_2, q1_2, un21), q0)).1 (div64.L1.ex0 ((yv_3, sv_2, un0_2, q1_2, un21), q0)).2)) := by kernel_rfl
theorem div64.eq {R : Type} (hi : Int) (lo : Int) (yv : Int) (k : GRes → Option R) : arun Try.prog div64.G div64.an 0 Try.f96 (div64.st (hi, lo, yv)).1 (div64.st (hi, lo, yv)).2 k =
  sel ((ieq yv (0 : Int))) (
   none /- load of .undef at bits.go:520: load -/) (
   sel ((ile yv hi)) (
    none /- load of .undef at bits.go:523: load -/) (
    sel ((ieq hi (0 : Int))) (
     sel (nonzero yv) (
     sel (nonzero yv) (
     k (div64.out ((iquo .u64 lo yv), (irem lo yv)))) none) none) (
     obind (lz64.call yv) fun x1 =>
     sel (nonneg (icv .u64 x1)) (
     sel (nonneg (icv .u64 x1)) (
     sel (nonneg (isub .u64 (64 : Int) (icv .u64 x1))) (
     sel (nonneg (icv .u64 x1)) (
     sel (nonzero (ishr .u64 (ishl .u64 yv (icv .u64 x1)) (32 : Int))) (
     obind (div64.L0.call ((ishl .u64 yv (icv .u64 x1)), (icv .u64 x1), (ishr .u64 (ishl .u64 yv (icv .u64 x1)) (32 : Int)), (bitop .and .u64 (ishl .u64 yv (icv .u64 x1)) (4294967295 : Int)), (bitop .or .u64 (ishl .u64 hi (icv .u64 x1)) (ishr .u64 lo (isub .u64 (64 : Int) (icv .u64 x1)))), (ishr .u64 (ishl .u64 lo (icv .u64 x1)) (32 : Int)), (bitop .and .u64 (ishl .u64 lo (icv .u64 x1)) (4294967295 : Int)), (iquo .u64 (bitop .or .u64 (ishl .u64 hi (icv .u64 x1)) (ishr .u64 lo (isub .u64 (64 : Int) (icv .u64 x1)))) (ishr .u64 (ishl .u64 yv (icv .u64 x1)) (32 : Int))), (isub .u64 (bitop .or .u64 (ishl .u64 hi (icv .u64 x1)) (ishr .u64 lo (isub .u64 (64 : Int) (icv .u64 x1)))) (imul .u64 (iquo .u64 (bitop .or .u64 (ishl .u64 hi (icv .u64 x1)) (ishr .u64 lo (isub .u64 (64 : Int) (icv .u64 x1)))) (ishr .u64 (ishl .u64 yv (icv .u64 x1)) (32 : Int))) (ishr .u64 (ishl .u64 yv (icv .u64 x1)) (32 : Int)))))) fun x2 =>
     sel (nonzero x2.1.2.2.1) (
     obind (div64.L1.call (x2.1.1, x2.1.2.1, x2.1.2.2.1, x2.1.2.2.2.1, x2.1.2.2.2.2.2.2, x2.2, (isub .u64 (isub .u64 (iadd .u64 (imul .u64 x2.1.2.2.2.2.1 (4294967296 : Int)) x2.1.2.2.2.2.2.1) (imul .u64 x2.2 x2.1.1)) (imul .u64 (iquo .u64 (isub .u64 (iadd .u64 (imul .u64 x2.1.2.2.2.2.1 (4294967296 : Int)) x2.1.2.2.2.2.2.1) (imul .u64 x2.2 x2.1.1)) x2.1.2.2.1) x2.1.2.2.1)), (isub .u64 (iadd .u64 (imul .u64 x2.1.2.2.2.2.1 (4294967296 : Int)) x2.1.2.2.2.2.2.1) (imul .u64 x2.2 x2.1.1)), (iquo .u64 (isub .u64 (iadd .u64 (imul .u64 x2.1.2.2.2.2.1 (4294967296 : Int)) x2.1.2.2.2.2.2.1) (imul .u64 x2.2 x2.1.1)) x2.1.2.2.1))) fun x3 =>
     sel (nonneg x3.1.2.1) (
     k (div64.out ((iadd .u64 (imul .u64 x3.1.2.2.2.1 (4294967296 : Int)) x3.2), (ishr .u64 (isub .u64 (iadd .u64 (imul .u64 x3.1.2.2.2.2 (4294967296 : Int)) x3.1.2.2.1) (imul .u64 x3.2 x3.1.1)) x3.1.2.1)))) none) none) none) none) none) none) none))) := by kernel_rfl


theorem div64.L0.ok : ∀ d, div64.L0.Pre d → ∃ n, lrun Try.prog div64.G div64.an 0 Try.f96 0 n (div64.L0.st d) (fun e s => some (e, s)) = (div64.L0.out (div64.L0.add d (div64.L0.F d))).eval := by
  refine div64.L0.byRounds (fun (y, sv, yn1, yn0, u, w, un0, q, r) => q.toNat) ?_
  rintro ⟨y, sv, yn1, yn0, u, w, un0, q, r⟩ ⟨e, he, rfl, rfl, rfl, hu, hu2, hw, hw2, hr, hr2, hq, hQ⟩
  have hu : 0 ≤ u := hu
  have hu2 : u < 18446744073709551616 - e := hu2
  have hw : 0 ≤ w := hw
  have hw2 : w < 4294967296 := hw2
  have hr : 0 ≤ r := hr
  have hr2 : r < 4294967296 := hr2
  have hq : q * 4294967295 + r = u := hq
  obtain ⟨k1, k2, k3, k4, k5, k6⟩ := k1 he hu hu2 hw hw2 hr hr2 hq hQ
  have q0 : 0 ≤ q := Int.le_trans k5 hQ
  have a1 : iadd .u64 r 4294967295 = r + 4294967295 := by rw [iadd_um]; omega
  have a2 : iadd .u64 (imul .u64 4294967296 r) w = 4294967296 * r + w := by rw [imul_um, iadd_um]; omega
  have a3 : q < 4294967296 → imul .u64 q (4294967296 - e) = q * (4294967296 - e) := by
    intro h; rw [imul_um]; rcases he with rfl | rfl | rfl <;> omega
  have a4 : 0 < q → isub .u64 q 1 = q - 1 := by intro h; rw [isub_um]; omega
  have pos : 4294967296 ≤ q ∨ (q < 4294967296 ∧ 4294967296 * r + w < q * (4294967296 - e)) → 0 < q ∧ (u * 4294967296 + w) / (18446744073709551616 - e) ≤ q - 1 := by
    rintro (h | ⟨h, h2⟩)
    · exact ⟨by omega, k1 h⟩
    · exact ⟨by have := k2 h h2; omega, k2 h h2⟩
  by_cases hc : 4294967296 ≤ q ∨ (q < 4294967296 ∧ 4294967296 * r + w < q * (4294967296 - e))
  · obtain ⟨p1, p2⟩ := pos hc
    by_cases hb : 4294967296 ≤ r + 4294967295
    · right
      have hF : div64.L0.F (18446744073709551616 - e, sv, 4294967295, 4294967296 - e, u, w, un0, q, r) = q - 1 := k4 hb p2
      intro R kn kx
      rw [div64.L0.step, a1, a2, a4 p1, ige_true hb, hF]
      rcases hc with h | ⟨h, h2⟩
      · rw [ige_true h]; rfl
      · rw [ige_false (by omega), a3 h, igt_true h2]; rfl
    · left
      refine ⟨(18446744073709551616 - e, sv, 4294967295, 4294967296 - e, u, w, un0, q - 1, r + 4294967295), ⟨e, he, rfl, rfl, rfl, hu, hu2, hw, hw2, by omega, by omega, by omega, p2⟩, by simp only []; omega, rfl, fun kn kx => ?_⟩
      rw [div64.L0.step, a1, a2, a4 p1, ige_false hb]
      rcases hc with h | ⟨h, h2⟩
      · rw [ige_true h]; rfl
      · rw [ige_false (by omega), a3 h, igt_true h2]; rfl
  · right
    have h : q < 4294967296 := by omega
    have h2 : ¬ 4294967296 * r + w < q * (4294967296 - e) := fun x => hc (Or.inr ⟨h, x⟩)
    have hF : div64.L0.F (18446744073709551616 - e, sv, 4294967295, 4294967296 - e, u, w, un0, q, r) = q := k3 h (by omega)
    intro R kn kx
    rw [div64.L0.step, a2, a3 h, ige_false (by omega), igt_false h2, hF]
    rfl


theorem div64.L1.ok : ∀ d, div64.L1.Pre d → ∃ n, lrun Try.prog div64.G div64.an 0 Try.f96 1 n (div64.L1.st d) (fun e s => some (e, s)) = (div64.L1.out (div64.L1.add d (div64.L1.F d))).eval := by
  refine div64.L1.byRounds (fun (y, sv, yn1, yn0, w, q1, r, u, q) => q.toNat) ?_
  rintro ⟨y, sv, yn1, yn0, w, q1, r, u, q⟩ ⟨e, he, rfl, rfl, rfl, hu, hu2, hw, hw2, hr, hr2, hq, hQ⟩
  have hu : 0 ≤ u := hu
  have hu2 : u < 18446744073709551616 - e := hu2
  have hw : 0 ≤ w := hw
  have hw2 : w < 4294967296 := hw2
  have hr : 0 ≤ r := hr
  have hr2 : r < 4294967296 := hr2
  have hq : q * 4294967295 + r = u := hq
  obtain ⟨k1, k2, k3, k4, k5, k6⟩ := k1 he hu hu2 hw hw2 hr hr2 hq hQ
  have q0 : 0 ≤ q := Int.le_trans k5 hQ
  have a1 : iadd .u64 r 4294967295 = r + 4294967295 := by rw [iadd_um]; omega
  have a2 : iadd .u64 (imul .u64 4294967296 r) w = 4294967296 * r + w := by rw [imul_um, iadd_um]; omega
  have a3 : q < 4294967296 → imul .u64 q (4294967296 - e) = q * (4294967296 - e) := by
    intro h; rw [imul_um]; rcases he with rfl | rfl | rfl <;> omega
  have a4 : 0 < q → isub .u64 q 1 = q - 1 := by intro h; rw [isub_um]; omega
  have pos : 4294967296 ≤ q ∨ (q < 4294967296 ∧ 4294967296 * r + w < q * (4294967296 - e)) → 0 < q ∧ (u * 4294967296 + w) / (18446744073709551616 - e) ≤ q - 1 := by
    rintro (h | ⟨h, h2⟩)
    · exact ⟨by omega, k1 h⟩
    · exact ⟨by have := k2 h h2; omega, k2 h h2⟩
  by_cases hc : 4294967296 ≤ q ∨ (q < 4294967296 ∧ 4294967296 * r + w < q * (4294967296 - e))
  · obtain ⟨p1, p2⟩ := pos hc
    by_cases hb : 4294967296 ≤ r + 4294967295
    · right
      have hF : div64.L1.F (18446744073709551616 - e, sv, 4294967295, 4294967296 - e, w, q1, r, u, q) = q - 1 := k4 hb p2
      intro R kn kx
      rw [div64.L1.step, a1, a2, a4 p1, ige_true hb, hF]
      rcases hc with h | ⟨h, h2⟩
      · rw [ige_true h]; rfl
      · rw [ige_false (by omega), a3 h, igt_true h2]; rfl
    · left
      refine ⟨(18446744073709551616 - e, sv, 4294967295, 4294967296 - e, w, q1, r + 4294967295, u, q - 1), ⟨e, he, rfl, rfl, rfl, hu, hu2, hw, hw2, by omega, by omega, by omega, p2⟩, by simp only []; omega, rfl, fun kn kx => ?_⟩
      rw [div64.L1.step, a1, a2, a4 p1, ige_false hb]
      rcases hc with h | ⟨h, h2⟩
      · rw [ige_true h]; rfl
      · rw [ige_false (by omega), a3 h, igt_true h2]; rfl
  · right
    have h : q < 4294967296 := by omega
    have h2 : ¬ 4294967296 * r + w < q * (4294967296 - e) := fun x => hc (Or.inr ⟨h, x⟩)
    have hF : div64.L1.F (18446744073709551616 - e, sv, 4294967295, 4294967296 - e, w, q1, r, u, q) = q := k3 h (by omega)
    intro R kn kx
    rw [div64.L1.step, a2, a3 h, ige_false (by omega), igt_false h2, hF]
    rfl


/-- What is shifted: both digits of the divisor, and three of the number. -/
theorem dshift {y hi lo : Int} (hy : isY y) (h0 : 0 ≤ hi) (h1 : hi < y) (h2 : 0 ≤ lo) (h3 : lo < 18446744073709551616) : ∃ (s : Nat) (e m : Int), lz64.F y = s ∧ (s = 2 ∨ s = 3) ∧ m = 2 ^ s ∧ (e = 42260 ∨ e = 42264 ∨ e = 42272) ∧ y * m = 18446744073709551616 - e ∧
    ishl .u64 y (s : Int) = 18446744073709551616 - e ∧
    bitop .or .u64 (ishl .u64 hi (s : Int)) (ishr .u64 lo (isub .u64 64 (s : Int))) = (hi * 18446744073709551616 + lo) * m / 18446744073709551616 ∧
    ishl .u64 lo (s : Int) = (hi * 18446744073709551616 + lo) * m % 18446744073709551616 ∧
    (hi * 18446744073709551616 + lo) * m / 18446744073709551616 < 18446744073709551616 - e ∧
    (hi * 18446744073709551616 + lo) * m / (18446744073709551616 - e) = (hi * 18446744073709551616 + lo) / y ∧
    (hi * 18446744073709551616 + lo) * m % (18446744073709551616 - e) / m = (hi * 18446744073709551616 + lo) % y := by
  have e1 : isub .u64 64 ((2 : Nat) : Int) = ((62 : Nat) : Int) := rfl
  have e2 : isub .u64 64 ((3 : Nat) : Int) = ((61 : Nat) : Int) := rfl
  have p2 : (2 : Int) ^ 2 = 4 := rfl
  have p3 : (2 : Int) ^ 3 = 8 := rfl
  have p61 : (2 : Int) ^ 61 = 2305843009213693952 := rfl
  have p62 : (2 : Int) ^ 62 = 4611686018427387904 := rfl
  obtain rfl | rfl | rfl := hy
  · refine ⟨2, 42260, 4, rfl, Or.inl rfl, rfl, Or.inl rfl, rfl, by rw [shl_u64 2 (by rfl) (by omega), p2]; omega, ?_, ?_, by omega, by omega, by omega⟩
    · rw [e1, shl_u64 2 (by rfl) (by omega), shr_u64 62 (by rfl) (by omega), p2, p62, or_apart 2 4 rfl (by omega) (by omega) (by omega) (by omega) (by omega) (by omega)]; omega
    · rw [shl_u64 2 (by rfl) (by omega), p2]; omega
  · refine ⟨3, 42264, 8, rfl, Or.inr rfl, rfl, Or.inr (Or.inl rfl), rfl, by rw [shl_u64 3 (by rfl) (by omega), p3]; omega, ?_, ?_, by omega, by omega, by omega⟩
    · rw [e2, shl_u64 3 (by rfl) (by omega), shr_u64 61 (by rfl) (by omega), p3, p61, or_apart 3 8 rfl (by omega) (by omega) (by omega) (by omega) (by omega) (by omega)]; omega
    · rw [shl_u64 3 (by rfl) (by omega), p3]; omega
  · refine ⟨3, 42272, 8, rfl, Or.inr rfl, rfl, Or.inr (Or.inr rfl), rfl, by rw [shl_u64 3 (by rfl) (by omega), p3]; omega, ?_, ?_, by omega, by omega, by omega⟩
    · rw [e2, shl_u64 3 (by rfl) (by omega), shr_u64 61 (by rfl) (by omega), p3, p61, or_apart 3 8 rfl (by omega) (by omega) (by omega) (by omega) (by omega) (by omega)]; omega
    · rw [shl_u64 3 (by rfl) (by omega), p3]; omega


theorem mod3 (a b c : Int) : (((a % 18446744073709551616 + b) % 18446744073709551616) - c % 18446744073709551616) % 18446744073709551616 = (a + b - c) % 18446744073709551616 := by omega
theorem div64.ok : ∀ d, div64.Pre d → arun Try.prog div64.G div64.an 0 Try.f96 (div64.st d).1 (div64.st d).2 some = some (div64.out (div64.add d (div64.F d))) := by
  rintro ⟨hi, lo, y⟩ ⟨hy, h0, h1, h2, h3⟩
  have h0 : 0 ≤ hi := h0
  have h1 : hi < y := h1
  have h2 : 0 ≤ lo := h2
  have h3 : lo < 18446744073709551616 := h3
  have yb : 0 < y ∧ y < 18446744073709551616 := by obtain rfl | rfl | rfl := hy <;> omega
  rw [div64.eq, ieq_false (by omega), ile_false (by omega)]
  simp only [sel_false]
  have z : nonzero y = true := by simp [nonzero]; omega
  by_cases hz : hi = 0
  · subst hz
    rw [ieq_true rfl, z, iquo_nn h2 (by omega) h3, irem_nn h2]
    simp only [sel_true, div64.F, div64.add, Int.zero_mul, Int.zero_add]
  · obtain ⟨s, e, m, hs, hs2, hm, he, hym, a1, a2, a3, a4, a5, a6⟩ := dshift hy h0 h1 h2 h3
    have c1 : icv .u64 (s : Int) = (s : Int) := by rw [icv_um]; omega
    have c2 : nonneg (s : Int) = true := nonneg_true (by omega)
    have c3 : nonneg (isub .u64 64 (s : Int)) = true := by rcases hs2 with rfl | rfl <;> rfl
    rw [ieq_false hz, lz64.run (d := y) hy]
    simp only [sel_false, obind_some, lz64.add, hs, c1, c2, c3, sel_true, a1, a2, a3]
    have hN : 0 ≤ (hi * 18446744073709551616 + lo) * m := Int.mul_nonneg (by omega) (by rcases hs2 with rfl | rfl <;> omega)
    revert a4 a5 a6
    generalize (hi * 18446744073709551616 + lo) * m = N at hN
    intro a4 a5 a6
    have u0 : 0 ≤ N / 18446744073709551616 := by omega
    have t0 : 0 ≤ N % 18446744073709551616 := by omega
    have t1 : N % 18446744073709551616 < 18446744073709551616 := by omega
    have hd : N = (N / 18446744073709551616 * 4294967296 + N % 18446744073709551616 / 4294967296) * 4294967296 + N % 18446744073709551616 % 4294967296 := by omega
    have w10 : 0 ≤ N % 18446744073709551616 / 4294967296 := by omega
    have w11 : N % 18446744073709551616 / 4294967296 < 4294967296 := by omega
    have w00 : 0 ≤ N % 18446744073709551616 % 4294967296 := by omega
    have w01 : N % 18446744073709551616 % 4294967296 < 4294967296 := by omega
    have p32 : (2 : Int) ^ 32 = 4294967296 := rfl
    have b1 : ishr .u64 (18446744073709551616 - e) 32 = 4294967295 := by rw [shr_u64 32 (by rfl) (by omega), p32]; rcases he with rfl | rfl | rfl <;> rfl
    have b2 : bitop .and .u64 (18446744073709551616 - e) 4294967295 = 4294967296 - e := by rw [and32 (by omega) (by omega)]; omega
    have b3 : ishr .u64 (N % 18446744073709551616) 32 = N % 18446744073709551616 / 4294967296 := by rw [shr_u64 32 (by rfl) (by omega), p32]
    have b4 : bitop .and .u64 (N % 18446744073709551616) 4294967295 = N % 18446744073709551616 % 4294967296 := and32 t0 t1
    have z2 : nonzero 4294967295 = true := rfl
    simp only [b1, b2, b3, b4, z2, sel_true]
    clear a1 a2 a3 b1 b2 b3 b4
    have kdd := kd (18446744073709551616 - e) (N / 18446744073709551616) (N % 18446744073709551616 / 4294967296) (N % 18446744073709551616 % 4294967296) (by omega) w00 w01
    rw [← hd, a5] at kdd
    revert a4 kdd
    generalize N / 18446744073709551616 = u at u0
    generalize N % 18446744073709551616 / 4294967296 = w1 at w10 w11
    generalize N % 18446744073709551616 % 4294967296 = w0 at w00 w01
    intro a4 kdd
    have g : ∀ u w : Int, 0 ≤ u → u < 18446744073709551616 - e → 0 ≤ w → w < 4294967296 →
        iquo .u64 u 4294967295 = u / 4294967295 ∧ isub .u64 u (imul .u64 (u / 4294967295) 4294967295) = u - u / 4294967295 * 4294967295 ∧
        isub .u64 (iadd .u64 (imul .u64 u 4294967296) w) (imul .u64 ((u * 4294967296 + w) / (18446744073709551616 - e)) (18446744073709551616 - e)) = (u * 4294967296 + w) % (18446744073709551616 - e) := by
      intro u w k1 k2 k3 k4
      obtain ⟨q1, q2, q3, q4, q5, q6, q7, q8⟩ := k0 he k1 k2 k3 k4
      refine ⟨iquo_nn k1 (by omega) (by omega), by rw [isub_um, imul_um]; omega, ?_⟩
      rw [isub_um, iadd_um, imul_um, imul_um, mod3, q4]
      exact Int.emod_eq_of_lt q5 (by omega)
    obtain ⟨f1, f2, f3⟩ := g u w1 u0 a4 w10 w11
    obtain ⟨q1, q2, q3, q4, q5, q6, q7, q8⟩ := k0 he u0 a4 w10 w11
    have p1 : div64.L0.Pre (18446744073709551616 - e, (s : Int), 4294967295, 4294967296 - e, u, w1, w0, u / 4294967295, u - u / 4294967295 * 4294967295) := ⟨e, he, rfl, rfl, rfl, u0, a4, w10, w11, q2, q3, by omega, q1⟩
    rw [f1, f2, div64.L0.run p1]
    simp only [obind_some, div64.L0.add, div64.L0.F, z2, sel_true, f3]
    revert f3 q1 kdd
    generalize (u * 4294967296 + w1) % (18446744073709551616 - e) = v at q4 q5 q6
    generalize (u * 4294967296 + w1) / (18446744073709551616 - e) = Q at q4 q7 q8
    intro kdd f3 q1
    obtain ⟨g1, g2, g3⟩ := g v w0 q5 q6 w00 w01
    obtain ⟨r1, r2, r3, r4, r5, r6, r7, r8⟩ := k0 he q5 q6 w00 w01
    have p2 : div64.L1.Pre (18446744073709551616 - e, (s : Int), 4294967295, 4294967296 - e, w0, Q, v - v / 4294967295 * 4294967295, v, v / 4294967295) := ⟨e, he, rfl, rfl, rfl, q5, q6, w00, w01, r2, r3, by omega, r1⟩
    rw [g1, g2, div64.L1.run p2]
    simp only [obind_some, div64.L1.add, div64.L1.F, c2, sel_true, g3]
    rw [← kdd.2, shr_u64 s (by rfl) (by omega), ← hm, a6, imul_um, iadd_um]
    have e9 : (Q * 4294967296 % 18446744073709551616 + (v * 4294967296 + w0) / (18446744073709551616 - e)) % 18446744073709551616 = (hi * 18446744073709551616 + lo) / y := by rw [kdd.1]; omega
    rw [e9]
    rfl

theorem div64.inj : ∀ d d', div64.st d = div64.st d' → d = d' := fun (hi, lo, yv) (hi', lo', yv') hEq => by
  have e0 : hi = hi' := d_inj (t := (.int .u64)) (congrArg (fun s : List AVal × List Ent => (s.1.getD 0 .undef)) hEq)
  have e1 : lo = lo' := d_inj (t := (.int .u64)) (congrArg (fun s : List AVal × List Ent => (s.1.getD 1 .undef)) hEq)
  have e2 : yv = yv' := d_inj (t := (.int .u64)) (congrArg (fun s : List AVal × List Ent => (s.1.getD 2 .undef)) hEq)
  rw [e0, e1, e2]
noncomputable def div64.E : Entry := Entry.of [some (.int .u64), some (.int .u64), some (.int .u64)] div64.st div64.Pre (fun d => div64.add d (div64.F d)) div64.out
noncomputable def div64.call : div64.D → Option div64.X := fun d => div64.E.run (div64.st d).1 (div64.st d).2
theorem div64.run {d : div64.D} (h : div64.Pre d) : div64.call d = some (div64.add d (div64.F d)) := Entry.of_run div64.inj h
theorem div64.does : Does Try.prog 96 div64.E := Does.of (by kernel_rfl) (show Sound _ div64.G from Sound.cons lz64.does (Sound.nil _)) (by kernel_rfl) (by kernel_rfl) (by kernel_rfl) (LOk.fn 2 (by kernel_rfl) (And.intro (LDo.of (by kernel_rfl) div64.L0.ok) (And.intro (LDo.of (by kernel_rfl) div64.L1.ok) trivial))) div64.ok

/-! ### math/bits.Rem64 -/
abbrev rem64.D := Int × Int × Int
def rem64.st : rem64.D → List AVal × List Ent := fun (hi, lo, yv) => ([.d (.int .u64) hi, .d (.int .u64) lo, .d (.int .u64) yv], [])
abbrev rem64.Y := Int
abbrev rem64.X := Int
def rem64.out : rem64.X → GRes := fun x => ⟨.d (.int .u64) x, [], []⟩
def rem64.add : rem64.D → rem64.Y → rem64.X := fun (hi, lo, yv) y => y


def rem64.Pre : rem64.D → Prop := fun (hi, lo, y) => isY y ∧ 0 ≤ hi ∧ hi < 18446744073709551616 ∧ 0 ≤ lo ∧ lo < 18446744073709551616
def rem64.F : rem64.D → rem64.Y := fun (hi, lo, y) => (hi * 18446744073709551616 + lo) % y

noncomputable def rem64.G : Gam := gcons 96 anyArgs div64.E (gnil)
noncomputable def rem64.an : Ann := {
  objs := [],
  loops := fun r => { keep := [], sites := [], frz := [], data := [], owns := [] },
  outs := fun r b => { keep := [], sites := [], frz := [], data := [], owns := [] },
  sums := fun r => none,
  owns := [],
  trim := [],
  res := [] }
theorem rem64.eq {R : Type} (hi : Int) (lo : Int) (yv : Int) (k : GRes → Option R) : arun Try.prog rem64.G rem64.an 0 Try.f85 (rem64.st (hi, lo, yv)).1 (rem64.st (hi, lo, yv)).2 k =
  sel (nonzero yv) (
  obind (div64.call ((irem hi yv), lo, yv)) fun x1 =>
  k (rem64.out x1.2)) none := by kernel_rfl


theorem rem64.ok : ∀ d, rem64.Pre d → arun Try.prog rem64.G rem64.an 0 Try.f85 (rem64.st d).1 (rem64.st d).2 some = some (rem64.out (rem64.add d (rem64.F d))) := by
  rintro ⟨hi, lo, y⟩ ⟨hy, h0, h1, h2, h3⟩
  have h0 : 0 ≤ hi := h0
  have yb : 0 < y := by obtain rfl | rfl | rfl := hy <;> omega
  have z : nonzero y = true := by simp [nonzero]; omega
  have p : div64.Pre (hi % y, lo, y) := ⟨hy, Int.emod_nonneg _ (by omega), Int.emod_lt_of_pos _ yb, h2, h3⟩
  rw [rem64.eq, z, irem_nn h0, div64.run p]
  have e : (hi % y * 18446744073709551616 + lo) % y = (hi * 18446744073709551616 + lo) % y := by
    rw [Int.add_emod, Int.mul_emod, Int.emod_emod_of_dvd _ (Int.dvd_refl y), ← Int.mul_emod, ← Int.add_emod]
  simp only [sel_true, obind_some, div64.add, div64.F, rem64.add, rem64.F, e]

theorem rem64.inj : ∀ d d', rem64.st d = rem64.st d' → d = d' := fun (hi, lo, yv) (hi', lo', yv') hEq => by
  have e0 : hi = hi' := d_inj (t := (.int .u64)) (congrArg (fun s : List AVal × List Ent => (s.1.getD 0 .undef)) hEq)
  have e1 : lo = lo' := d_inj (t := (.int .u64)) (congrArg (fun s : List AVal × List Ent => (s.1.getD 1 .undef)) hEq)
  have e2 : yv = yv' := d_inj (t := (.int .u64)) (congrArg (fun s : List AVal × List Ent => (s.1.getD 2 .undef)) hEq)
  rw [e0, e1, e2]
noncomputable def rem64.E : Entry := Entry.of [some (.int .u64), some (.int .u64), some (.int .u64)] rem64.st rem64.Pre (fun d => rem64.add d (rem64.F d)) rem64.out
noncomputable def rem64.call : rem64.D → Option rem64.X := fun d => rem64.E.run (rem64.st d).1 (rem64.st d).2
theorem rem64.run {d : rem64.D} (h : rem64.Pre d) : rem64.call d = some (rem64.add d (rem64.F d)) := Entry.of_run rem64.inj h
theorem rem64.does : Does Try.prog 85 rem64.E := Does.of (by kernel_rfl) (show Sound _ rem64.G from Sound.cons div64.does (Sound.nil _)) (by kernel_rfl) (by kernel_rfl) (by kernel_rfl) (LOk.fn 0 (by kernel_rfl) trivial) rem64.ok

/-! ### math/bits.Mul64 -/
abbrev mul64.D := Int × Int
def mul64.st : mul64.D → List AVal × List Ent := fun (x, yv) => ([.d (.int .u64) x, .d (.int .u64) yv], [])
abbrev mul64.Y := Int × Int
abbrev mul64.X := Int × Int
def mul64.out : mul64.X → GRes := fun x => ⟨.cons (.d (.int .u64) x.1) (.cons (.d (.int .u64) x.2) (.nil)), [], []⟩
def mul64.add : mul64.D → mul64.Y → mul64.X := fun (x, yv) y => y


def mul64.Pre : mul64.D → Prop := fun (x, y) => (0 ≤ x ∧ x < 18446744073709551616) ∧ 0 ≤ y ∧ y < 18446744073709551616
def mul64.F : mul64.D → mul64.Y := fun (x, y) => (x * y / 18446744073709551616, x * y % 18446744073709551616)

noncomputable def mul64.G : Gam := gnil
noncomputable def mul64.an : Ann := {
  objs := [],
  loops := fun r => { keep := [], sites := [], frz := [], data := [], owns := [] },
  outs := fun r b => { keep := [], sites := [], frz := [], data := [], owns := [] },
  sums := fun r => none,
  owns := [],
  trim := [],
  res := [] }
theorem mul64.eq {R : Type} (x : Int) (yv : Int) (k : GRes → Option R) : arun Try.prog mul64.G mul64.an 0 Try.f86 (mul64.st (x, yv)).1 (mul64.st (x, yv)).2 k =
  k (mul64.out ((iadd .u64 (iadd .u64 (imul .u64 (ishr .u64 x (32 : Int)) (ishr .u64 yv (32 : Int))) (ishr .u64 (iadd .u64 (imul .u64 (ishr .u64 x (32 : Int)) (bitop .and .u64 yv (4294967295 : Int))) (ishr .u64 (imul .u64 (bitop .and .u64 x (4294967295 : Int)) (bitop .and .u64 yv (4294967295 : Int))) (32 : Int))) (32 : Int))) (ishr .u64 (iadd .u64 (bitop .and .u64 (iadd .u64 (imul .u64 (ishr .u64 x (32 : Int)) (bitop .and .u64 yv (4294967295 : Int))) (ishr .u64 (imul .u64 (bitop .and .u64 x (4294967295 : Int)) (bitop .and .u64 yv (4294967295 : Int))) (32 : Int))) (4294967295 : Int)) (imul .u64 (bitop .and .u64 x (4294967295 : Int)) (ishr .u64 yv (32 : Int)))) (32 : Int))), (imul .u64 x yv))) := by kernel_rfl


theorem mul_le {a b m n : Int} (h0 : 0 ≤ a) (h1 : a ≤ m) (h2 : 0 ≤ b) (h3 : b ≤ n) : 0 ≤ a * b ∧ a * b ≤ m * n :=
  ⟨Int.mul_nonneg h0 h2, Int.mul_le_mul h1 h3 h2 (Int.le_trans h0 h1)⟩
theorem mul64.ok : ∀ d, mul64.Pre d → arun Try.prog mul64.G mul64.an 0 Try.f86 (mul64.st d).1 (mul64.st d).2 some = some (mul64.out (mul64.add d (mul64.F d))) := by
  rintro ⟨x, y⟩ ⟨⟨h0, h1⟩, h2, h3⟩
  have h0 : 0 ≤ x := h0
  have h1 : x < 18446744073709551616 := h1
  have h2 : 0 ≤ y := h2
  have h3 : y < 18446744073709551616 := h3
  rw [mul64.eq]
  have p32 : (2 : Int) ^ 32 = 4294967296 := rfl
  have s32 : ∀ x : Int, ishr .u64 x 32 = x / 4294967296 := fun x => by rw [shr_u64 32 (by rfl) (by omega), p32]
  simp only [s32, and32 h0 h1, and32 h2 h3]
  obtain ⟨a, b, rfl, a0, a1, b0, b1⟩ : ∃ a b : Int, x = a * 4294967296 + b ∧ 0 ≤ a ∧ a ≤ 4294967295 ∧ 0 ≤ b ∧ b ≤ 4294967295 := ⟨x / 4294967296, x % 4294967296, by omega, by omega, by omega, by omega, by omega⟩
  obtain ⟨c, d, rfl, c0, c1, d0, d1⟩ : ∃ a b : Int, y = a * 4294967296 + b ∧ 0 ≤ a ∧ a ≤ 4294967295 ∧ 0 ≤ b ∧ b ≤ 4294967295 := ⟨y / 4294967296, y % 4294967296, by omega, by omega, by omega, by omega, by omega⟩
  have e1 : (a * 4294967296 + b) / 4294967296 = a := by omega
  have e2 : (a * 4294967296 + b) % 4294967296 = b := by omega
  have e3 : (c * 4294967296 + d) / 4294967296 = c := by omega
  have e4 : (c * 4294967296 + d) % 4294967296 = d := by omega
  have e5 : (a * 4294967296 + b) * (c * 4294967296 + d) = a * c * 18446744073709551616 + (a * d + b * c) * 4294967296 + b * d := by
    have q : (4294967296 : Int) * 4294967296 = 18446744073709551616 := rfl
    rw [Int.add_mul, Int.mul_add, Int.mul_add]
    have q1 : a * 4294967296 * (c * 4294967296) = a * c * 18446744073709551616 := by rw [← q]; ac_rfl
    have q2 : a * 4294967296 * d = a * d * 4294967296 := by ac_rfl
    have q3 : b * (c * 4294967296) = b * c * 4294967296 := by ac_rfl
    rw [q1, q2, q3]; omega
  obtain ⟨m1, m2⟩ := mul_le a0 a1 c0 c1
  obtain ⟨m3, m4⟩ := mul_le a0 a1 d0 d1
  obtain ⟨m5, m6⟩ := mul_le b0 b1 c0 c1
  obtain ⟨m7, m8⟩ := mul_le b0 b1 d0 d1
  have n : (4294967295 : Int) * 4294967295 = 18446744065119617025 := rfl
  rw [n] at m2 m4 m6 m8
  simp only [e1, e2, e3, e4, mul64.add, mul64.F, e5, imul_um, iadd_um]
  revert m1 m2 m3 m4 m5 m6 m7 m8
  generalize a * c = ac
  generalize a * d = ad
  generalize b * c = bc
  generalize b * d = bd
  intro m1 m2 m3 m4 m5 m6 m7 m8
  have q1 : bd % 18446744073709551616 = bd := by omega
  have q2 : ad % 18446744073709551616 = ad := by omega
  have q3 : bc % 18446744073709551616 = bc := by omega
  have q4 : ac % 18446744073709551616 = ac := by omega
  rw [q1, q2, q3, q4]
  have q5 : (ad + bd / 4294967296) % 18446744073709551616 = ad + bd / 4294967296 := by omega
  have q6 : bitop .and .u64 (ad + bd / 4294967296) 4294967295 = (ad + bd / 4294967296) % 4294967296 := and32 (by omega) (by omega)
  rw [q5, q6]
  refine congrArg some (congrArg mul64.out (Prod.ext ?_ ?_))
  · show _ = (_ : Int)
    simp only []
    omega
  · rfl

theorem mul64.inj : ∀ d d', mul64.st d = mul64.st d' → d = d' := fun (x, yv) (x', yv') hEq => by
  have e0 : x = x' := d_inj (t := (.int .u64)) (congrArg (fun s : List AVal × List Ent => (s.1.getD 0 .undef)) hEq)
  have e1 : yv = yv' := d_inj (t := (.int .u64)) (congrArg (fun s : List AVal × List Ent => (s.1.getD 1 .undef)) hEq)
  rw [e0, e1]
noncomputable def mul64.E : Entry := Entry.of [some (.int .u64), some (.int .u64)] mul64.st mul64.Pre (fun d => mul64.add d (mul64.F d)) mul64.out
noncomputable def mul64.call : mul64.D → Option mul64.X := fun d => mul64.E.run (mul64.st d).1 (mul64.st d).2
theorem mul64.run {d : mul64.D} (h : mul64.Pre d) : mul64.call d = some (mul64.add d (mul64.F d)) := Entry.of_run mul64.inj h
theorem mul64.does : Does Try.prog 86 mul64.E := Does.of (by kernel_rfl) (show Sound _ mul64.G from Sound.nil _) (by kernel_rfl) (by kernel_rfl) (by kernel_rfl) (LOk.fn 0 (by kernel_rfl) trivial) mul64.ok

end Go.Ab
