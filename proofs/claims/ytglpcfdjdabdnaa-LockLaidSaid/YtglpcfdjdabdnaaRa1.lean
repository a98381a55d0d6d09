/-
  Made by a program of mine (wip/gen), and by hand.
-/
import Derived.Test.YtglpcfdjdabdnaaHa6
namespace Go.Ab
open Go.Proofs
set_option maxRecDepth 100000
set_option linter.unusedVariables false
set_option linter.unusedSimpArgs false

/-! ### corsned/corsnedref04.turn -/
abbrev rturn.D := Int × Int
def rturn.st : rturn.D → List AVal × List Ent := fun (x, n) => ([.d (.int .u32) x, .d (.int .i64) n], [])
abbrev rturn.Y := Int
abbrev rturn.X := Int
def rturn.out : rturn.X → GRes := fun x => ⟨.d (.int .u32) x, [], []⟩
def rturn.add : rturn.D → rturn.Y → rturn.X := fun (x, n) y => y


def rturn.Pre : rturn.D → Prop := fun (x, n) => 0 ≤ x ∧ x < 4294967296 ∧ 0 ≤ n ∧ n ≤ 32
def rturn.F : rturn.D → rturn.Y := fun (x, n) => vw (rotr (BitVec.ofInt 32 x) n.toNat)

noncomputable def rturn.G : Gam := gnil
noncomputable def rturn.an : Ann := {
  objs := [],
  loops := fun r => { keep := [], sites := [], frz := [], data := [], owns := [] },
  outs := fun r b => { keep := [], sites := [], frz := [], data := [], owns := [] },
  sums := fun r => none,
  owns := [],
  trim := [],
  res := [] }
theorem rturn.eq {R : Type} (x : Int) (n : Int) (k : GRes → Option R) : arun Try.prog rturn.G rturn.an 0 Try.f107 (rturn.st (x, n)).1 (rturn.st (x, n)).2 k =
  sel (nonneg n) (
  sel (nonneg (isub .i64 (32 : Int) n)) (
  k (rturn.out (bitop .or .u32 (ishr .u32 x n) (ishl .u32 x (isub .i64 (32 : Int) n))))) none) none := by kernel_rfl


theorem rturn.ok : ∀ d, rturn.Pre d → arun Try.prog rturn.G rturn.an 0 Try.f107 (rturn.st d).1 (rturn.st d).2 some = some (rturn.out (rturn.add d (rturn.F d))) := by
  rintro ⟨x, n⟩ ⟨h1, h2, h3, h4⟩
  obtain ⟨n, rfl⟩ := Int.eq_ofNat_of_zero_le h3
  have hx : x = vw (BitVec.ofInt 32 x) := by rw [vw_ofInt]; have h1 : 0 ≤ x := h1; have h2 : x < 4294967296 := h2; omega
  have h4 : (n : Int) ≤ 32 := h4
  rw [rturn.eq]
  simp (disch := omega) only [↓N.lt, ↓N.le, ↓N.gt, ↓N.ge, ↓N.eq, ↓N.ne, ↓N.ib, ↓N.ic, ↓N.nn, ↓N.nz, ↓N.dc, ↓N.rm, ↓N.an, ↓N.or, ↓N.no, ↓if_pos, ↓if_neg, ↓sel_true, ↓sel_false, ↓obind_some, if_pos, if_neg, obind_some, N.aNN, N.aNL, N.aLN, N.sNN, N.sNL, N.sLN, N.mNN, N.mNL, N.mLN, N.qNN, N.qNL, N.rNN, N.rNL, N.cN, N.cL, N.tL, Int.toNat_natCast, if_true, if_false, and_self, true_and, and_true]
  have e2 : bitop .or .u32 (ishr .u32 x (n : Int)) (ishl .u32 x ((32 - n : Nat) : Int)) = vw (rotr (BitVec.ofInt 32 x) n) := by
    conv => lhs; rw [hx]
    rw [ishl_u32, ishr_u32, bitop_u32]
    simp only [rotr, Int.toNat_natCast]
    rw [BitVec.or_comm]
  rw [e2]
  rfl

theorem rturn.inj : ∀ d d', rturn.st d = rturn.st d' → d = d' := fun (x, n) (x', n') hEq => by
  have e0 : x = x' := d_inj (t := (.int .u32)) (congrArg (fun s : List AVal × List Ent => (s.1.getD 0 .undef)) hEq)
  have e1 : n = n' := d_inj (t := (.int .i64)) (congrArg (fun s : List AVal × List Ent => (s.1.getD 1 .undef)) hEq)
  rw [e0, e1]
noncomputable def rturn.E : Entry := Entry.of [some (.int .u32), some (.int .i64)] rturn.st rturn.Pre (fun d => rturn.add d (rturn.F d)) rturn.out
noncomputable def rturn.call : rturn.D → Option rturn.X := fun d => rturn.E.run (rturn.st d).1 (rturn.st d).2
theorem rturn.run {d : rturn.D} (h : rturn.Pre d) : rturn.call d = some (rturn.add d (rturn.F d)) := Entry.of_run rturn.inj h
theorem rturn.does : Does Try.prog 107 rturn.E := Does.of (by kernel_rfl) (show Sound _ rturn.G from Sound.nil _) (by kernel_rfl) (by kernel_rfl) (by kernel_rfl) (LOk.fn 0 (by kernel_rfl) trivial) rturn.ok


theorem rturn.at (w : W) {k : Int} (h : 0 ≤ k ∧ k ≤ 32) : rturn.call (vw w, k) = some (vw (rotr w k.toNat)) := by
  have h : rturn.Pre (vw w, k) := ⟨vw_nonneg w, by have := vw_lt w; simpa using this, h.1, h.2⟩
  rw [rturn.run h]
  show some (vw (rotr (BitVec.ofInt 32 (vw w)) k.toNat)) = _
  rw [ofInt_vw]

/-! ### corsned/corsnedref04.firsts -/
abbrev rfirsts.D := Unit
def rfirsts.st : rfirsts.D → List AVal × List Ent := fun _ => ([], [])
abbrev rfirsts.Y := (List Int)
abbrev rfirsts.X := (List Int)
def rfirsts.out : rfirsts.X → GRes := fun x => ⟨.d (.slice (.int .u32)) x, [], []⟩
def rfirsts.add : rfirsts.D → rfirsts.Y → rfirsts.X := fun _ y => y


def rfirsts.Pre : rfirsts.D → Prop := fun _ => True
def rfirsts.F : rfirsts.D → rfirsts.Y := fun _ => first0.l

noncomputable def rfirsts.G : Gam := gnil
noncomputable def rfirsts.an : Ann := {
  objs := [1],
  loops := fun r => { keep := [], sites := [], frz := [], data := [], owns := [] },
  outs := fun r b => { keep := [], sites := [], frz := [], data := [], owns := [] },
  sums := fun r => none,
  owns := [],
  trim := [],
  res := [some (.slice (.int .u32))] }
theorem rfirsts.eq {R : Type}  (k : GRes → Option R) : arun Try.prog rfirsts.G rfirsts.an 0 Try.f102 (rfirsts.st ()).1 (rfirsts.st ()).2 k =
  k (rfirsts.out [(1779033703 : Int), (3144134277 : Int), (1013904242 : Int), (2773480762 : Int), (1359893119 : Int), (2600822924 : Int), (528734635 : Int), (1541459225 : Int)]) := by kernel_rfl


theorem rfirsts.ok : ∀ d, rfirsts.Pre d → arun Try.prog rfirsts.G rfirsts.an 0 Try.f102 (rfirsts.st d).1 (rfirsts.st d).2 some = some (rfirsts.out (rfirsts.add d (rfirsts.F d))) := by
  intro d _
  rw [rfirsts.eq]
  rfl

theorem rfirsts.inj : ∀ d d', rfirsts.st d = rfirsts.st d' → d = d' := fun _ _ _ => rfl
noncomputable def rfirsts.E : Entry := Entry.of [] rfirsts.st rfirsts.Pre (fun d => rfirsts.add d (rfirsts.F d)) rfirsts.out
noncomputable def rfirsts.call : rfirsts.D → Option rfirsts.X := fun d => rfirsts.E.run (rfirsts.st d).1 (rfirsts.st d).2
theorem rfirsts.run {d : rfirsts.D} (h : rfirsts.Pre d) : rfirsts.call d = some (rfirsts.add d (rfirsts.F d)) := Entry.of_run rfirsts.inj h
theorem rfirsts.does : Does Try.prog 102 rfirsts.E := Does.of (by kernel_rfl) (show Sound _ rfirsts.G from Sound.nil _) (by kernel_rfl) (by kernel_rfl) (by kernel_rfl) (LOk.fn 0 (by kernel_rfl) trivial) rfirsts.ok

/-! ### corsned/corsnedref04.adds -/
abbrev radds.D := Unit
def radds.st : radds.D → List AVal × List Ent := fun _ => ([], [])
abbrev radds.Y := (List Int)
abbrev radds.X := (List Int)
def radds.out : radds.X → GRes := fun x => ⟨.d (.slice (.int .u32)) x, [], []⟩
def radds.add : radds.D → radds.Y → radds.X := fun _ y => y


def radds.Pre : radds.D → Prop := fun _ => True
def radds.F : radds.D → radds.Y := fun _ => kint

noncomputable def radds.G : Gam := gnil
noncomputable def radds.an : Ann := {
  objs := [1],
  loops := fun r => { keep := [], sites := [], frz := [], data := [], owns := [] },
  outs := fun r b => { keep := [], sites := [], frz := [], data := [], owns := [] },
  sums := fun r => none,
  owns := [],
  trim := [],
  res := [some (.slice (.int .u32))] }
theorem radds.eq {R : Type}  (k : GRes → Option R) : arun Try.prog radds.G radds.an 0 Try.f106 (radds.st ()).1 (radds.st ()).2 k =
  k (radds.out [(1116352408 : Int), (1899447441 : Int), (3049323471 : Int), (3921009573 : Int), (961987163 : Int), (1508970993 : Int), (2453635748 : Int), (2870763221 : Int), (3624381080 : Int), (310598401 : Int), (607225278 : Int), (1426881987 : Int), (1925078388 : Int), (2162078206 : Int), (2614888103 : Int), (3248222580 : Int), (3835390401 : Int), (4022224774 : Int), (264347078 : Int), (604807628 : Int), (770255983 : Int), (1249150122 : Int), (1555081692 : Int), (1996064986 : Int), (2554220882 : Int), (2821834349 : Int), (2952996808 : Int), (3210313671 : Int), (3336571891 : Int), (3584528711 : Int), (113926993 : Int), (338241895 : Int), (666307205 : Int), (773529912 : Int), (1294757372 : Int), (1396182291 : Int), (1695183700 : Int), (1986661051 : Int), (2177026350 : Int), (2456956037 : Int), (2730485921 : Int), (2820302411 : Int), (3259730800 : Int), (3345764771 : Int), (3516065817 : Int), (3600352804 : Int), (4094571909 : Int), (275423344 : Int), (430227734 : Int), (506948616 : Int), (659060556 : Int), (883997877 : Int), (958139571 : Int), (1322822218 : Int), (1537002063 : Int), (1747873779 : Int), (1955562222 : Int), (2024104815 : Int), (2227730452 : Int), (2361852424 : Int), (2428436474 : Int), (2756734187 : Int), (3204031479 : Int), (3329325298 : Int)]) := by kernel_rfl


theorem radds.ok : ∀ d, radds.Pre d → arun Try.prog radds.G radds.an 0 Try.f106 (radds.st d).1 (radds.st d).2 some = some (radds.out (radds.add d (radds.F d))) := by
  intro d _
  rw [radds.eq]
  rfl

theorem radds.inj : ∀ d d', radds.st d = radds.st d' → d = d' := fun _ _ _ => rfl
noncomputable def radds.E : Entry := Entry.of [] radds.st radds.Pre (fun d => radds.add d (radds.F d)) radds.out
noncomputable def radds.call : radds.D → Option radds.X := fun d => radds.E.run (radds.st d).1 (radds.st d).2
theorem radds.run {d : radds.D} (h : radds.Pre d) : radds.call d = some (radds.add d (radds.F d)) := Entry.of_run radds.inj h
theorem radds.does : Does Try.prog 106 radds.E := Does.of (by kernel_rfl) (show Sound _ radds.G from Sound.nil _) (by kernel_rfl) (by kernel_rfl) (by kernel_rfl) (LOk.fn 0 (by kernel_rfl) trivial) radds.ok

/-! ### corsned/corsnedref04.padded -/
abbrev rpadded.L0.D := (List Int) × Nat × (List Int)
def rpadded.L0.st : rpadded.L0.D → AS := fun (b_2, outL, n6) => ⟨([.d (.slice (.int .u8)) b_2, .undef, .undef, .sref (.new 6 0) 0 [] 0 0 outL] ++ undN 31 []), [], (nilN 6 ([[.obj 0 false (.vec 5 (.int .u8) n6)]] ++ nilN 28 []))⟩
abbrev rpadded.L0.Y0 := Nat × (List Int)  -- outL, n6
abbrev rpadded.L0.X0 := ((List Int)) × (Nat × (List Int))
def rpadded.L0.ex0 : rpadded.L0.X0 → Exit × AS := fun x => (.exit 0, ⟨([.d (.slice (.int .u8)) x.1, .undef, .undef, .sref (.new 6 0) 0 [] 0 0 x.2.1] ++ undN 31 []), [], (nilN 6 ([[.obj 0 false (.vec 5 (.int .u8) x.2.2)]] ++ nilN 28 []))⟩)
abbrev rpadded.L0.X := rpadded.L0.X0
abbrev rpadded.L0.Y := rpadded.L0.Y0
def rpadded.L0.out : rpadded.L0.X → Out (Exit × AS) := fun x => .ok (rpadded.L0.ex0 x)
def rpadded.L0.add : rpadded.L0.D → rpadded.L0.Y → rpadded.L0.X := fun (b_2, outL, n6) y => (b_2, y)
abbrev rpadded.L1.D := Nat × Int × Int × (List Int)
def rpadded.L1.st : rpadded.L1.D → AS := fun (outL_2, n, kv, n6_2) => ⟨([.undef, .undef, .undef, .sref (.new 6 0) 0 [] 0 0 outL_2, .d (.int .u64) n, .d (.int .i64) kv] ++ undN 29 []), [], (nilN 6 ([[.obj 0 false (.vec 5 (.int .u8) n6_2)]] ++ nilN 28 []))⟩
abbrev rpadded.L1.Y0 := Nat × (List Int)  -- outL, n6
abbrev rpadded.L1.X0 := Nat × (List Int)
def rpadded.L1.ex0 : rpadded.L1.X0 → Exit × AS := fun x => (.exit 2, ⟨([.undef, .undef, .undef, .sref (.new 6 0) 0 [] 0 0 x.1] ++ undN 31 []), [], (nilN 6 ([[.obj 0 false (.vec 5 (.int .u8) x.2)]] ++ nilN 28 []))⟩)
abbrev rpadded.L1.X := rpadded.L1.X0
abbrev rpadded.L1.Y := rpadded.L1.Y0
def rpadded.L1.out : rpadded.L1.X → Out (Exit × AS) := fun x => .ok (rpadded.L1.ex0 x)
def rpadded.L1.add : rpadded.L1.D → rpadded.L1.Y → rpadded.L1.X := fun (outL_2, n, kv, n6_2) y => y
abbrev rpadded.D := (List Int)
def rpadded.st : rpadded.D → List AVal × List Ent := fun b => ([.d (.slice (.int .u8)) b], [])
abbrev rpadded.Y := (List Int)
abbrev rpadded.X := (List Int)
def rpadded.out : rpadded.X → GRes := fun x => ⟨.d (.slice (.int .u8)) x, [], []⟩
def rpadded.add : rpadded.D → rpadded.Y → rpadded.X := fun b y => y


def rpadded.L0.Pre : rpadded.L0.D → Prop := fun (b, m, l) => m = l.length ∧ l.length + zc l.length ≤ 140737488355328
def rpadded.L0.F : rpadded.L0.D → rpadded.L0.Y := fun (b, m, l) => (l.length + zc l.length, l ++ List.replicate (zc l.length) 0)
def rpadded.L1.Pre : rpadded.L1.D → Prop := fun (m, n, kv, l) => 0 ≤ n ∧ n < 18446744073709551616 ∧ ∃ j : Nat, j ≤ 8 ∧ kv = 56 - 8 * (j : Int) ∧ m = l.length ∧ l.length ≤ 140737488355320 + j
def rpadded.L1.F : rpadded.L1.D → rpadded.L1.Y := fun (m, n, kv, l) => (l.length + (be8 n).length - (7 - (kv / 8)).toNat, l ++ (be8 n).drop (7 - (kv / 8)).toNat)
def rpadded.Pre : rpadded.D → Prop := fun b => b.length ≤ 140737488350000
def rpadded.F : rpadded.D → rpadded.Y := fun b => pad b

noncomputable def rpadded.G : Gam := gnil
noncomputable def rpadded.L0.E : LEntry := LEntry.of rpadded.L0.st rpadded.L0.Pre (fun d => rpadded.L0.add d (rpadded.L0.F d)) rpadded.L0.out
noncomputable def rpadded.L0.call : rpadded.L0.D → Option rpadded.L0.X := fun d => rpadded.L0.E.run (rpadded.L0.st d)
noncomputable def rpadded.L1.E : LEntry := LEntry.of rpadded.L1.st rpadded.L1.Pre (fun d => rpadded.L1.add d (rpadded.L1.F d)) rpadded.L1.out
noncomputable def rpadded.L1.call : rpadded.L1.D → Option rpadded.L1.X := fun d => rpadded.L1.E.run (rpadded.L1.st d)
noncomputable def rpadded.an : Ann := {
  objs := [6],
  loops := fun r => bif Nat.beq r 3 then { keep := [0, 3], sites := [6], frz := [], data := [], owns := [⟨3, [], 6, 52⟩] } else bif Nat.beq r 7 then { keep := [3, 4, 5], sites := [6], frz := [], data := [], owns := [⟨3, [], 6, 52⟩] } else { keep := [], sites := [], frz := [], data := [], owns := [] },
  outs := fun r b => bif Nat.beq r 3 then (bif b then { keep := [2], sites := [], frz := [], data := [], owns := [] } else { keep := [0, 3], sites := [6], frz := [], data := [], owns := [] }) else bif Nat.beq r 7 then (bif b then { keep := [2], sites := [], frz := [], data := [], owns := [] } else { keep := [3], sites := [6], frz := [], data := [], owns := [] }) else { keep := [], sites := [], frz := [], data := [], owns := [] },
  sums := fun r => bif Nat.beq r 3 then some rpadded.L0.E else bif Nat.beq r 7 then some rpadded.L1.E else none,
  owns := [],
  trim := [],
  res := [some (.slice (.int .u8))] }
theorem rpadded.L0.inj : ∀ d d', rpadded.L0.st d = rpadded.L0.st d' → d = d' := fun (b_2, outL, n6) (b_2', outL', n6') hEq => by
  have e0 : b_2 = b_2' := d_inj (t := (.slice (.int .u8))) (congrArg (fun s : AS => (s.slot 0)) hEq)
  have e1 : outL = outL' := congrArg (fun s : AS => srefLen (s.slot 3)) hEq
  have e2 : n6 = n6' := vec_inj (e := 5) (t := (.int .u8)) (congrArg (fun s : AS => (entC (s.ent (.new 6 0)))) hEq)
  rw [e0, e1, e2]
theorem rpadded.L0.run {d : rpadded.L0.D} (h : rpadded.L0.Pre d) : rpadded.L0.call d = some (rpadded.L0.add d (rpadded.L0.F d)) := LEntry.of_run rpadded.L0.inj h
theorem rpadded.L0.byRounds (μ : rpadded.L0.D → Nat) (h : ∀ d, rpadded.L0.Pre d → (∃ d', rpadded.L0.Pre d' ∧ μ d' < μ d ∧ rpadded.L0.add d' (rpadded.L0.F d') = rpadded.L0.add d (rpadded.L0.F d) ∧ ∀ {R : Type} (kn : AS → Option R) (kx : Exit → AS → Option R), lround Try.prog rpadded.G rpadded.an 0 Try.f101 0 (rpadded.L0.st d) kn kx = kn (rpadded.L0.st d')) ∨ (∀ {R : Type} (kn : AS → Option R) (kx : Exit → AS → Option R), lround Try.prog rpadded.G rpadded.an 0 Try.f101 0 (rpadded.L0.st d) kn kx = kx (rpadded.L0.ex0 (rpadded.L0.add d (rpadded.L0.F d))).1 (rpadded.L0.ex0 (rpadded.L0.add d (rpadded.L0.F d))).2)) : ∀ d, rpadded.L0.Pre d → ∃ n, lrun Try.prog rpadded.G rpadded.an 0 Try.f101 0 n (rpadded.L0.st d) (fun e s => some (e, s)) = (rpadded.L0.out (rpadded.L0.add d (rpadded.L0.F d))).eval := lrun_one (F := fun d => rpadded.L0.add d (rpadded.L0.F d)) μ h
theorem rpadded.L0.step {R : Type} (b_2 : (List Int)) (outL : Nat) (n6 : (List Int)) (kn : AS → Option R) (kx : Exit → AS → Option R) : lround Try.prog rpadded.G rpadded.an 0 Try.f101 0 (rpadded.L0.st (b_2, outL, n6)) kn kx =
  sel ((ine (irem ((outL : Nat) : Int) (64 : Int)) (56 : Int))) (
   sel (decide (outL ≤ (List.length n6))) (
   sel (roomA (outL + 1) 1) (
   kn (rpadded.L0.st (b_2, (outL + 1), ((List.take outL n6) ++ [(0 : Int)])))) none) none) (
   kx (rpadded.L0.ex0 (b_2, (outL, n6))).1 (rpadded.L0.ex0 (b_2, (outL, n6))).2) := by kernel_rfl
theorem rpadded.L1.inj : ∀ d d', rpadded.L1.st d = rpadded.L1.st d' → d = d' := fun (outL_2, n, kv, n6_2) (outL_2', n', kv', n6_2') hEq => by
  have e0 : outL_2 = outL_2' := congrArg (fun s : AS => srefLen (s.slot 3)) hEq
  have e1 : n = n' := d_inj (t := (.int .u64)) (congrArg (fun s : AS => (s.slot 4)) hEq)
  have e2 : kv = kv' := d_inj (t := (.int .i64)) (congrArg (fun s : AS => (s.slot 5)) hEq)
  have e3 : n6_2 = n6_2' := vec_inj (e := 5) (t := (.int .u8)) (congrArg (fun s : AS => (entC (s.ent (.new 6 0)))) hEq)
  rw [e0, e1, e2, e3]
theorem rpadded.L1.run {d : rpadded.L1.D} (h : rpadded.L1.Pre d) : rpadded.L1.call d = some (rpadded.L1.add d (rpadded.L1.F d)) := LEntry.of_run rpadded.L1.inj h
theorem rpadded.L1.byRounds (μ : rpadded.L1.D → Nat) (h : ∀ d, rpadded.L1.Pre d → (∃ d', rpadded.L1.Pre d' ∧ μ d' < μ d ∧ rpadded.L1.add d' (rpadded.L1.F d') = rpadded.L1.add d (rpadded.L1.F d) ∧ ∀ {R : Type} (kn : AS → Option R) (kx : Exit → AS → Option R), lround Try.prog rpadded.G rpadded.an 0 Try.f101 1 (rpadded.L1.st d) kn kx = kn (rpadded.L1.st d')) ∨ (∀ {R : Type} (kn : AS → Option R) (kx : Exit → AS → Option R), lround Try.prog rpadded.G rpadded.an 0 Try.f101 1 (rpadded.L1.st d) kn kx = kx (rpadded.L1.ex0 (rpadded.L1.add d (rpadded.L1.F d))).1 (rpadded.L1.ex0 (rpadded.L1.add d (rpadded.L1.F d))).2)) : ∀ d, rpadded.L1.Pre d → ∃ n, lrun Try.prog rpadded.G rpadded.an 0 Try.f101 1 n (rpadded.L1.st d) (fun e s => some (e, s)) = (rpadded.L1.out (rpadded.L1.add d (rpadded.L1.F d))).eval := lrun_one (F := fun d => rpadded.L1.add d (rpadded.L1.F d)) μ h
theorem rpadded.L1.step {R : Type} (outL_2 : Nat) (n : Int) (kv : Int) (n6_2 : (List Int)) (kn : AS → Option R) (kx : Exit → AS → Option R) : lround Try.prog rpadded.G rpadded.an 0 Try.f101 1 (rpadded.L1.st (outL_2, n, kv, n6_2)) kn kx =
  sel ((ige kv (0 : Int))) (
   sel (nonneg kv) (
   sel (decide (outL_2 ≤ (List.length n6_2))) (
   sel (roomA (outL_2 + 1) 1) (
   kn (rpadded.L1.st ((outL_2 + 1), n, (isub .i64 kv (8 : Int)), ((List.take outL_2 n6_2) ++ [(icv .u8 (ishr .u64 n kv))])))) none) none) none) (
   kx (rpadded.L1.ex0 (outL_2, n6_2)).1 (rpadded.L1.ex0 (outL_2, n6_2)).2) := by kernel_rfl
theorem rpadded.eq {R : Type} (b : (List Int)) (k : GRes → Option R) : arun Try.prog rpadded.G rpadded.an 0 Try.f101 (rpadded.st b).1 (rpadded.st b).2 k =
  sel (roomA (0 + (List.length b)) 1) (
  sel (decide ((0 + (List.length b)) ≤ (List.length ((List.take 0 (List.replicate 0 (0 : Int))) ++ b)))) (
  sel (roomA ((0 + (List.length b)) + 1) 1) (
  obind (rpadded.L0.call (b, ((0 + (List.length b)) + 1), ((List.take (0 + (List.length b)) ((List.take 0 (List.replicate 0 (0 : Int))) ++ b)) ++ [(128 : Int)]))) fun x1 =>
  obind (rpadded.L1.call (x1.2.1, (imul .u64 (8 : Int) (icv .u64 (((List.length x1.1) : Nat) : Int))), (56 : Int), x1.2.2)) fun x2 =>
  sel (decide (0 = 0 ∧ (0 + x2.1) ≤ (List.length x2.2))) (
  k (rpadded.out (cut x2.2 0 x2.1))) none) none) none) none := by kernel_rfl


theorem rpadded.L0.ok : ∀ d, rpadded.L0.Pre d → ∃ n, lrun Try.prog rpadded.G rpadded.an 0 Try.f101 0 n (rpadded.L0.st d) (fun e s => some (e, s)) = (rpadded.L0.out (rpadded.L0.add d (rpadded.L0.F d))).eval := by
  refine rpadded.L0.byRounds (fun (b, m, l) => zc l.length) ?_
  rintro ⟨b, m, l⟩ ⟨rfl, hl⟩
  have hl : l.length + zc l.length ≤ 140737488355328 := hl
  by_cases h : l.length % 64 = 56
  · right
    intro R kn kx
    have hz : zc l.length = 0 := by unfold zc; omega
    rw [rpadded.L0.step]
    simp (disch := omega) only [↓N.lt, ↓N.le, ↓N.gt, ↓N.ge, ↓N.eq, ↓N.ne, ↓N.ib, ↓N.ic, ↓N.nn, ↓N.nz, ↓N.dc, ↓N.rm, ↓N.an, ↓N.or, ↓N.no, ↓if_pos, ↓if_neg, ↓sel_true, ↓sel_false, ↓obind_some, if_pos, if_neg, obind_some, N.aNN, N.aNL, N.aLN, N.sNN, N.sNL, N.sLN, N.mNN, N.mNL, N.mLN, N.qNN, N.qNL, N.rNN, N.rNL, N.cN, N.cL, N.tL, Int.toNat_natCast, if_true, if_false, and_self, true_and, and_true, rpadded.L0.add, rpadded.L0.F, hz, Nat.add_zero, List.replicate_zero, List.append_nil]
  · left
    have hz : zc l.length = zc (l.length + 1) + 1 := by unfold zc; omega
    refine ⟨(b, l.length + 1, l ++ [0]), ⟨by simp, by simp only [List.length_append, List.length_cons, List.length_nil, Nat.zero_add]; omega⟩, by simp only [List.length_append, List.length_cons, List.length_nil, Nat.zero_add]; omega, ?_, fun kn kx => ?_⟩
    · simp only [rpadded.L0.add, rpadded.L0.F, List.length_append, List.length_cons, List.length_nil, Nat.zero_add, hz, List.append_assoc, List.cons_append, List.nil_append, List.replicate_succ]
      rw [show l.length + 1 + zc (l.length + 1) = l.length + (zc (l.length + 1) + 1) by omega]
    · rw [rpadded.L0.step]
      simp (disch := omega) only [↓N.lt, ↓N.le, ↓N.gt, ↓N.ge, ↓N.eq, ↓N.ne, ↓N.ib, ↓N.ic, ↓N.nn, ↓N.nz, ↓N.dc, ↓N.rm, ↓N.an, ↓N.or, ↓N.no, ↓if_pos, ↓if_neg, ↓sel_true, ↓sel_false, ↓obind_some, if_pos, if_neg, obind_some, N.aNN, N.aNL, N.aLN, N.sNN, N.sNL, N.sLN, N.mNN, N.mNL, N.mLN, N.qNN, N.qNL, N.rNN, N.rNL, N.cN, N.cL, N.tL, Int.toNat_natCast, if_true, if_false, and_self, true_and, and_true, List.take_length]
theorem be8_drop (n : Int) (j : Nat) (h : j < 8) : (be8 n).drop j = n / 2 ^ (56 - 8 * j) % 256 :: (be8 n).drop (j + 1) := by
  rcases (by omega : j = 0 ∨ j = 1 ∨ j = 2 ∨ j = 3 ∨ j = 4 ∨ j = 5 ∨ j = 6 ∨ j = 7) with rfl | rfl | rfl | rfl | rfl | rfl | rfl | rfl <;> simp [be8]
theorem u64_byte (n : Int) (k : Nat) (h1 : k ≤ 64) : icv .u8 (ishr .u64 n (k : Int)) = n / 2 ^ k % 256 := by
  rw [icv_u8, vw_ofInt, ishr]
  have e : min (k : Int).toNat IntKind.u64.bits = k := by simp only [IntKind.bits]; omega
  rw [e, Int.fdiv_eq_ediv_of_nonneg _ (Int.le_of_lt (Int.pow_pos (by omega)))]
  rfl
theorem rpadded.L1.ok : ∀ d, rpadded.L1.Pre d → ∃ n, lrun Try.prog rpadded.G rpadded.an 0 Try.f101 1 n (rpadded.L1.st d) (fun e s => some (e, s)) = (rpadded.L1.out (rpadded.L1.add d (rpadded.L1.F d))).eval := by
  refine rpadded.L1.byRounds (fun (m, n, kv, l) => (kv + 8).toNat) ?_
  rintro ⟨m, n, kv, l⟩ ⟨h1, h2, j, hj, rfl, rfl, hl⟩
  have hl : l.length ≤ 140737488355320 + j := hl
  have e1 : (7 - ((56 - 8 * (j : Int)) / 8)).toNat = j := by omega
  by_cases h : j < 8
  · left
    have e2 : isub .i64 (56 - 8 * (j : Int)) 8 = 56 - 8 * ((j + 1 : Nat) : Int) := by rw [isub_i64 (by omega) (by omega)]; omega
    have e3 : (7 - ((56 - 8 * ((j + 1 : Nat) : Int)) / 8)).toNat = j + 1 := by omega
    have e4 : (56 - 8 * (j : Int)) = ((56 - 8 * j : Nat) : Int) := by omega
    refine ⟨(l.length + 1, n, 56 - 8 * ((j + 1 : Nat) : Int), l ++ [n / 2 ^ (56 - 8 * j) % 256]), ⟨h1, h2, j + 1, by omega, rfl, by simp, by simp only [List.length_append, List.length_cons, List.length_nil]; omega⟩, by simp only; omega, ?_, fun kn kx => ?_⟩
    · simp only [rpadded.L1.add, rpadded.L1.F, e1, e3, be8_drop n j h, List.length_append, List.length_cons, List.length_nil, List.append_assoc, List.cons_append, List.nil_append, be8_length]
      rw [show l.length + (0 + 1) + 8 - (j + 1) = l.length + 8 - j by omega]
    · rw [rpadded.L1.step, e2, e4, u64_byte n _ (by omega)]
      simp (disch := omega) only [↓N.lt, ↓N.le, ↓N.gt, ↓N.ge, ↓N.eq, ↓N.ne, ↓N.ib, ↓N.ic, ↓N.nn, ↓N.nz, ↓N.dc, ↓N.rm, ↓N.an, ↓N.or, ↓N.no, ↓if_pos, ↓if_neg, ↓sel_true, ↓sel_false, ↓obind_some, if_pos, if_neg, obind_some, N.aNN, N.aNL, N.aLN, N.sNN, N.sNL, N.sLN, N.mNN, N.mNL, N.mLN, N.qNN, N.qNL, N.rNN, N.rNL, N.cN, N.cL, N.tL, Int.toNat_natCast, if_true, if_false, and_self, true_and, and_true, List.take_length]
  · right
    obtain rfl : j = 8 := by omega
    intro R kn kx
    rw [rpadded.L1.step]
    simp (disch := omega) only [↓N.lt, ↓N.le, ↓N.gt, ↓N.ge, ↓N.eq, ↓N.ne, ↓N.ib, ↓N.ic, ↓N.nn, ↓N.nz, ↓N.dc, ↓N.rm, ↓N.an, ↓N.or, ↓N.no, ↓if_pos, ↓if_neg, ↓sel_true, ↓sel_false, ↓obind_some, if_pos, if_neg, obind_some, N.aNN, N.aNL, N.aLN, N.sNN, N.sNL, N.sLN, N.mNN, N.mNL, N.mLN, N.qNN, N.qNL, N.rNN, N.rNL, N.cN, N.cL, N.tL, Int.toNat_natCast, if_true, if_false, and_self, true_and, and_true, rpadded.L1.add, rpadded.L1.F, e1]
    simp [be8]
theorem rpadded.ok : ∀ d, rpadded.Pre d → arun Try.prog rpadded.G rpadded.an 0 Try.f101 (rpadded.st d).1 (rpadded.st d).2 some = some (rpadded.out (rpadded.add d (rpadded.F d))) := by
  intro b hb
  have hb : b.length ≤ 140737488350000 := hb
  have hz : zc (b ++ [128]).length = padn b.length := by
    simp only [List.length_append, List.length_cons, List.length_nil, zc, padn]
    omega
  have hzb : padn b.length < 64 := by unfold padn; omega
  have p1 : rpadded.L0.Pre (b, b.length + 1, b ++ [128]) := ⟨by simp, by rw [hz]; simp only [List.length_append, List.length_cons, List.length_nil] <;> omega⟩
  have e1 : icv .u64 ((b.length : Nat) : Int) = ((b.length : Nat) : Int) := by rw [icv_u64, vw_ofInt]; omega
  have e2 : imul .u64 8 ((b.length : Nat) : Int) = 8 * (b.length : Int) := by
    unfold imul; rw [wrap_u64, vw_ofInt]; omega
  have e3 : List.take b.length b = b := List.take_length
  rw [rpadded.eq]
  simp only [List.replicate_zero, List.take_nil, List.nil_append, Nat.zero_add, e1, e2, e3]
  simp (disch := omega) only [↓N.lt, ↓N.le, ↓N.gt, ↓N.ge, ↓N.eq, ↓N.ne, ↓N.ib, ↓N.ic, ↓N.nn, ↓N.nz, ↓N.dc, ↓N.rm, ↓N.an, ↓N.or, ↓N.no, ↓if_pos, ↓if_neg, ↓sel_true, ↓sel_false, ↓obind_some, if_pos, if_neg, obind_some, N.aNN, N.aNL, N.aLN, N.sNN, N.sNL, N.sLN, N.mNN, N.mNL, N.mLN, N.qNN, N.qNL, N.rNN, N.rNL, N.cN, N.cL, N.tL, Int.toNat_natCast, if_true, if_false, and_self, true_and, and_true, rpadded.L0.run p1, rpadded.L0.add, rpadded.L0.F, hz]
  have p2 : rpadded.L1.Pre ((b ++ [128]).length + padn b.length, 8 * (b.length : Int), 56, b ++ [128] ++ List.replicate (padn b.length) 0) := by
    refine ⟨by omega, by omega, 0, by omega, rfl, by simp only [List.length_append, List.length_cons, List.length_nil, List.length_replicate] <;> omega, ?_⟩
    simp only [List.length_append, List.length_cons, List.length_nil, List.length_replicate]
    omega
  simp (disch := omega) only [↓N.lt, ↓N.le, ↓N.gt, ↓N.ge, ↓N.eq, ↓N.ne, ↓N.ib, ↓N.ic, ↓N.nn, ↓N.nz, ↓N.dc, ↓N.rm, ↓N.an, ↓N.or, ↓N.no, ↓if_pos, ↓if_neg, ↓sel_true, ↓sel_false, ↓obind_some, if_pos, if_neg, obind_some, N.aNN, N.aNL, N.aLN, N.sNN, N.sNL, N.sLN, N.mNN, N.mNL, N.mLN, N.qNN, N.qNL, N.rNN, N.rNL, N.cN, N.cL, N.tL, Int.toNat_natCast, if_true, if_false, and_self, true_and, and_true, e1, e2, rpadded.L1.run p2, rpadded.L1.add, rpadded.L1.F]
  have e5 : (7 - ((56 : Int) / 8)).toNat = 0 := by decide
  rw [e5, List.drop_zero]
  have e6 : (b ++ [128] ++ List.replicate (padn b.length) 0).length + (be8 (8 * (b.length : Int))).length - 0 = (b ++ [128] ++ List.replicate (padn b.length) 0 ++ be8 (8 * (b.length : Int))).length := by rw [@List.length_append _ _ (be8 _)]; omega
  rw [e6, if_pos (Nat.le_refl _)]
  unfold cut
  rw [List.drop_zero, List.take_length]
  simp only [rpadded.add, rpadded.F, pad, List.append_assoc, List.cons_append, List.nil_append]

theorem rpadded.inj : ∀ d d', rpadded.st d = rpadded.st d' → d = d' := fun b b' hEq => by
  have e0 : b = b' := d_inj (t := (.slice (.int .u8))) (congrArg (fun s : List AVal × List Ent => (s.1.getD 0 .undef)) hEq)
  rw [e0]
noncomputable def rpadded.E : Entry := Entry.of [some (.slice (.int .u8))] rpadded.st rpadded.Pre (fun d => rpadded.add d (rpadded.F d)) rpadded.out
noncomputable def rpadded.call : rpadded.D → Option rpadded.X := fun d => rpadded.E.run (rpadded.st d).1 (rpadded.st d).2
theorem rpadded.run {d : rpadded.D} (h : rpadded.Pre d) : rpadded.call d = some (rpadded.add d (rpadded.F d)) := Entry.of_run rpadded.inj h
theorem rpadded.does : Does Try.prog 101 rpadded.E := Does.of (by kernel_rfl) (show Sound _ rpadded.G from Sound.nil _) (by kernel_rfl) (by kernel_rfl) (by kernel_rfl) (LOk.fn 2 (by kernel_rfl) (And.intro (LDo.of (by kernel_rfl) rpadded.L0.ok) (And.intro (LDo.of (by kernel_rfl) rpadded.L1.ok) trivial))) rpadded.ok

end Go.Ab
