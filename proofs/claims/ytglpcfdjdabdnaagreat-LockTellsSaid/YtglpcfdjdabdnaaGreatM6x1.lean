/-
  Texts put together: Ha1, Ha2, Ha3, Ha4, Ha5, Ha6, Ra1, Ra2, Ra3, Ra4, Bi1, Bi2.
-/
import Derived.Test.YtglpcfdjdabdnaaGreatMc3
import Derived.Test.YtglpcfdjdabdnaaGreatProg
namespace Go.Ab
open Go.Proofs
set_option maxRecDepth 100000
set_option linter.unusedVariables false
set_option linter.unusedSimpArgs false


theorem byte_ofInt {x : Int} (h : Byte x) : BitVec.ofInt 32 x = BitVec.ofInt 32 x := rfl

/-! ### corsned/hash.binary -/
abbrev binary.D := (List Int)
def binary.st : binary.D → List AVal × List Ent := fun b => ([.d (.slice (.int .u8)) b], [])
abbrev binary.Y := Int
abbrev binary.X := Int
def binary.out : binary.X → GRes := fun x => ⟨.d (.int .u32) x, [], []⟩
def binary.add : binary.D → binary.Y → binary.X := fun b y => y


def binary.Pre : binary.D → Prop := fun b => 4 ≤ b.length
def binary.F : binary.D → binary.Y := fun b => vw (be4 (b.getD 0 0) (b.getD 1 0) (b.getD 2 0) (b.getD 3 0))

noncomputable def binary.G : Gam := gnil
noncomputable def binary.an : Ann := {
  objs := [],
  loops := fun r => { keep := [], sites := [], frz := [], data := [], owns := [] },
  outs := fun r b => { keep := [], sites := [], frz := [], data := [], owns := [] },
  sums := fun r => none,
  owns := [],
  trim := [],
  res := [] }
theorem binary.eq {R : Type} (b : (List Int)) (k : GRes → Option R) : arun Tryz.prog binary.G binary.an 0 Tryz.f167 (binary.st b).1 (binary.st b).2 k =
  sel (inb (0 : Int) (((List.length b) : Nat) : Int)) (
  sel (inb (1 : Int) (((List.length b) : Nat) : Int)) (
  sel (inb (2 : Int) (((List.length b) : Nat) : Int)) (
  sel (inb (3 : Int) (((List.length b) : Nat) : Int)) (
  k (binary.out (bitop .or .u32 (bitop .or .u32 (bitop .or .u32 (ishl .u32 (icv .u32 (nth (.int .u8) b 0)) (24 : Int)) (ishl .u32 (icv .u32 (nth (.int .u8) b 1)) (16 : Int))) (ishl .u32 (icv .u32 (nth (.int .u8) b 2)) (8 : Int))) (icv .u32 (nth (.int .u8) b 3))))) none) none) none) none := by kernel_rfl


theorem binary.ok : ∀ d, binary.Pre d → arun Tryz.prog binary.G binary.an 0 Tryz.f167 (binary.st d).1 (binary.st d).2 some = some (binary.out (binary.add d (binary.F d))) := by
  intro b h
  have h : 4 ≤ b.length := h
  rw [binary.eq, inb_true (by omega) (by omega), inb_true (by omega) (by omega), inb_true (by omega) (by omega), inb_true (by omega) (by omega)]
  simp only [sel_true, icv_u32, ishl_u32, bitop_u32]
  rfl

theorem binary.inj : ∀ d d', binary.st d = binary.st d' → d = d' := fun b b' hEq => by
  have e0 : b = b' := d_inj (t := (.slice (.int .u8))) (congrArg (fun s : List AVal × List Ent => (s.1.getD 0 .undef)) hEq)
  rw [e0]
noncomputable def binary.E : Entry := Entry.of [some (.slice (.int .u8))] binary.st binary.Pre (fun d => binary.add d (binary.F d)) binary.out
noncomputable def binary.call : binary.D → Option binary.X := fun d => binary.E.run (binary.st d).1 (binary.st d).2
theorem binary.run {d : binary.D} (h : binary.Pre d) : binary.call d = some (binary.add d (binary.F d)) := Entry.of_run binary.inj h
theorem binary.does : Does Tryz.prog 167 binary.E := Does.of (by kernel_rfl) (show Sound _ binary.G from Sound.nil _) (by kernel_rfl) (by kernel_rfl) (by kernel_rfl) (LOk.fn 0 (by kernel_rfl) trivial) binary.ok

/-! ### math/bits.RotateLeft32 -/
abbrev rotl32.D := Int × Int
def rotl32.st : rotl32.D → List AVal × List Ent := fun (x, kv) => ([.d (.int .u32) x, .d (.int .i64) kv], [])
abbrev rotl32.Y := Int
abbrev rotl32.X := Int
def rotl32.out : rotl32.X → GRes := fun x => ⟨.d (.int .u32) x, [], []⟩
def rotl32.add : rotl32.D → rotl32.Y → rotl32.X := fun (x, kv) y => y


def rl (w : W) (k : Nat) : W := w <<< k ||| w >>> (32 - k)
def rotl32.Pre : rotl32.D → Prop := fun (x, k) => 0 ≤ x ∧ x < 4294967296
def rotl32.F : rotl32.D → rotl32.Y := fun (x, k) => vw (rl (BitVec.ofInt 32 x) (k % 32).toNat)

noncomputable def rotl32.G : Gam := gnil
noncomputable def rotl32.an : Ann := {
  objs := [],
  loops := fun r => { keep := [], sites := [], frz := [], data := [], owns := [] },
  outs := fun r b => { keep := [], sites := [], frz := [], data := [], owns := [] },
  sums := fun r => none,
  owns := [],
  trim := [],
  res := [] }
theorem rotl32.eq {R : Type} (x : Int) (kv : Int) (k : GRes → Option R) : arun Tryz.prog rotl32.G rotl32.an 0 Tryz.f150 (rotl32.st (x, kv)).1 (rotl32.st (x, kv)).2 k =
  sel (nonneg (bitop .and .u64 (icv .u64 kv) (31 : Int))) (
  sel (nonneg (isub .u64 (32 : Int) (bitop .and .u64 (icv .u64 kv) (31 : Int)))) (
  k (rotl32.out (bitop .or .u32 (ishl .u32 x (bitop .and .u64 (icv .u64 kv) (31 : Int))) (ishr .u32 x (isub .u64 (32 : Int) (bitop .and .u64 (icv .u64 kv) (31 : Int))))))) none) none := by kernel_rfl


theorem and31 (k : Int) : bitop .and .u64 (icv .u64 k) 31 = k % 32 := by
  have e : (31 : Int) = vw (31 : BitVec 64) := rfl
  rw [icv_u64, e, bitop_u64]
  simp only
  have : (31 : BitVec 64) = BitVec.ofNat 64 (2 ^ 5 - 1) := rfl
  unfold vw
  rw [BitVec.toNat_and, BitVec.toNat_ofInt, show (31 : BitVec 64).toNat = 2 ^ 5 - 1 from rfl, Nat.and_two_pow_sub_one_eq_mod]
  omega
theorem rotl32.ok : ∀ d, rotl32.Pre d → arun Tryz.prog rotl32.G rotl32.an 0 Tryz.f150 (rotl32.st d).1 (rotl32.st d).2 some = some (rotl32.out (rotl32.add d (rotl32.F d))) := by
  rintro ⟨x, k⟩ ⟨h1, h2⟩
  have e1 : isub .u64 32 (k % 32) = 32 - k % 32 := by
    unfold isub
    rw [wrap_u64, vw_ofInt]
    omega
  have hx : x = vw (BitVec.ofInt 32 x) := by rw [vw_ofInt]; omega
  rw [rotl32.eq, and31, e1, nonneg_true (by omega), nonneg_true (by omega)]
  simp only [sel_true]
  have e2 : bitop .or .u32 (ishl .u32 x (k % 32)) (ishr .u32 x (32 - k % 32)) = vw (rl (BitVec.ofInt 32 x) (k % 32).toNat) := by
    conv => lhs; rw [hx]
    rw [ishl_u32, ishr_u32, bitop_u32]
    simp only [rl]
    congr 3
    omega
  rw [e2]
  rfl

theorem rotl32.inj : ∀ d d', rotl32.st d = rotl32.st d' → d = d' := fun (x, kv) (x', kv') hEq => by
  have e0 : x = x' := d_inj (t := (.int .u32)) (congrArg (fun s : List AVal × List Ent => (s.1.getD 0 .undef)) hEq)
  have e1 : kv = kv' := d_inj (t := (.int .i64)) (congrArg (fun s : List AVal × List Ent => (s.1.getD 1 .undef)) hEq)
  rw [e0, e1]
noncomputable def rotl32.E : Entry := Entry.of [some (.int .u32), some (.int .i64)] rotl32.st rotl32.Pre (fun d => rotl32.add d (rotl32.F d)) rotl32.out
noncomputable def rotl32.call : rotl32.D → Option rotl32.X := fun d => rotl32.E.run (rotl32.st d).1 (rotl32.st d).2
theorem rotl32.run {d : rotl32.D} (h : rotl32.Pre d) : rotl32.call d = some (rotl32.add d (rotl32.F d)) := Entry.of_run rotl32.inj h
theorem rotl32.does : Does Tryz.prog 150 rotl32.E := Does.of (by kernel_rfl) (show Sound _ rotl32.G from Sound.nil _) (by kernel_rfl) (by kernel_rfl) (by kernel_rfl) (LOk.fn 0 (by kernel_rfl) trivial) rotl32.ok


theorem rotl32.at (w : W) (k : Int) : rotl32.call (vw w, k) = some (vw (rl w (k % 32).toNat)) := by
  have h : rotl32.Pre (vw w, k) := ⟨vw_nonneg w, by have := vw_lt w; simpa using this⟩
  rw [rotl32.run h]
  show some (vw (rl (BitVec.ofInt 32 (vw w)) (k % 32).toNat)) = _
  rw [ofInt_vw]

/-! ### corsned/hash.table -/
abbrev table.D := Unit
def table.st : table.D → List AVal × List Ent := fun _ => ([], [])
abbrev table.Y := (List Int)
abbrev table.X := (List Int)
def table.out : table.X → GRes := fun x => ⟨.d (.arr 64 (.int .u32)) x, [], []⟩
def table.add : table.D → table.Y → table.X := fun _ y => y


def table.Pre : table.D → Prop := fun _ => True
def table.F : table.D → table.Y := fun _ => kint

noncomputable def table.G : Gam := gnil
noncomputable def table.an : Ann := {
  objs := [],
  loops := fun r => { keep := [], sites := [], frz := [], data := [], owns := [] },
  outs := fun r b => { keep := [], sites := [], frz := [], data := [], owns := [] },
  sums := fun r => none,
  owns := [],
  trim := [],
  res := [] }
theorem table.eq {R : Type}  (k : GRes → Option R) : arun Tryz.prog table.G table.an 0 Tryz.f149 (table.st ()).1 (table.st ()).2 k =
  k (table.out [(1116352408 : Int), (1899447441 : Int), (3049323471 : Int), (3921009573 : Int), (961987163 : Int), (1508970993 : Int), (2453635748 : Int), (2870763221 : Int), (3624381080 : Int), (310598401 : Int), (607225278 : Int), (1426881987 : Int), (1925078388 : Int), (2162078206 : Int), (2614888103 : Int), (3248222580 : Int), (3835390401 : Int), (4022224774 : Int), (264347078 : Int), (604807628 : Int), (770255983 : Int), (1249150122 : Int), (1555081692 : Int), (1996064986 : Int), (2554220882 : Int), (2821834349 : Int), (2952996808 : Int), (3210313671 : Int), (3336571891 : Int), (3584528711 : Int), (113926993 : Int), (338241895 : Int), (666307205 : Int), (773529912 : Int), (1294757372 : Int), (1396182291 : Int), (1695183700 : Int), (1986661051 : Int), (2177026350 : Int), (2456956037 : Int), (2730485921 : Int), (2820302411 : Int), (3259730800 : Int), (3345764771 : Int), (3516065817 : Int), (3600352804 : Int), (4094571909 : Int), (275423344 : Int), (430227734 : Int), (506948616 : Int), (659060556 : Int), (883997877 : Int), (958139571 : Int), (1322822218 : Int), (1537002063 : Int), (1747873779 : Int), (1955562222 : Int), (2024104815 : Int), (2227730452 : Int), (2361852424 : Int), (2428436474 : Int), (2756734187 : Int), (3204031479 : Int), (3329325298 : Int)]) := by kernel_rfl


theorem table.ok : ∀ d, table.Pre d → arun Tryz.prog table.G table.an 0 Tryz.f149 (table.st d).1 (table.st d).2 some = some (table.out (table.add d (table.F d))) := by
  intro d _
  rw [table.eq]
  rfl

theorem table.inj : ∀ d d', table.st d = table.st d' → d = d' := fun _ _ _ => rfl
noncomputable def table.E : Entry := Entry.of [] table.st table.Pre (fun d => table.add d (table.F d)) table.out
noncomputable def table.call : table.D → Option table.X := fun d => table.E.run (table.st d).1 (table.st d).2
theorem table.run {d : table.D} (h : table.Pre d) : table.call d = some (table.add d (table.F d)) := Entry.of_run table.inj h
theorem table.does : Does Tryz.prog 149 table.E := Does.of (by kernel_rfl) (show Sound _ table.G from Sound.nil _) (by kernel_rfl) (by kernel_rfl) (by kernel_rfl) (LOk.fn 0 (by kernel_rfl) trivial) table.ok

/-! ### corsned/hash.first -/
abbrev first.D := Unit
def first.st : first.D → List AVal × List Ent := fun _ => ([], [])
abbrev first.Y := (List Int)
abbrev first.X := (List Int)
def first.out : first.X → GRes := fun x => ⟨.d (.arr 8 (.int .u32)) x, [], []⟩
def first.add : first.D → first.Y → first.X := fun _ y => y


def first.Pre : first.D → Prop := fun _ => True
def first.F : first.D → first.Y := fun _ => first0.l

noncomputable def first.G : Gam := gnil
noncomputable def first.an : Ann := {
  objs := [],
  loops := fun r => { keep := [], sites := [], frz := [], data := [], owns := [] },
  outs := fun r b => { keep := [], sites := [], frz := [], data := [], owns := [] },
  sums := fun r => none,
  owns := [],
  trim := [],
  res := [] }
theorem first.eq {R : Type}  (k : GRes → Option R) : arun Tryz.prog first.G first.an 0 Tryz.f110 (first.st ()).1 (first.st ()).2 k =
  k (first.out [(1779033703 : Int), (3144134277 : Int), (1013904242 : Int), (2773480762 : Int), (1359893119 : Int), (2600822924 : Int), (528734635 : Int), (1541459225 : Int)]) := by kernel_rfl


theorem first.ok : ∀ d, first.Pre d → arun Tryz.prog first.G first.an 0 Tryz.f110 (first.st d).1 (first.st d).2 some = some (first.out (first.add d (first.F d))) := by
  intro d _
  rw [first.eq]
  rfl

theorem first.inj : ∀ d d', first.st d = first.st d' → d = d' := fun _ _ _ => rfl
noncomputable def first.E : Entry := Entry.of [] first.st first.Pre (fun d => first.add d (first.F d)) first.out
noncomputable def first.call : first.D → Option first.X := fun d => first.E.run (first.st d).1 (first.st d).2
theorem first.run {d : first.D} (h : first.Pre d) : first.call d = some (first.add d (first.F d)) := Entry.of_run first.inj h
theorem first.does : Does Tryz.prog 110 first.E := Does.of (by kernel_rfl) (show Sound _ first.G from Sound.nil _) (by kernel_rfl) (by kernel_rfl) (by kernel_rfl) (LOk.fn 0 (by kernel_rfl) trivial) first.ok

end Go.Ab
namespace Go.Ab
open Go.Proofs
set_option maxRecDepth 100000
set_option linter.unusedVariables false
set_option linter.unusedSimpArgs false

/-! ### corsned/hash.schedule -/
abbrev schedule.L0.D := (List Int) × Int × (List Int)
def schedule.L0.st : schedule.L0.D → AS := fun (b_2, t8, n2) => ⟨([.d (.slice (.int .u8)) b_2, .undef, .ptr (.new 2 0) 0 [] 0] ++ undN 5 ([.d (.int .i64) t8] ++ undN 52 [])), [], ([[], [], [.obj 0 false (.d (.arr 64 (.int .u32)) n2)]] ++ nilN 58 [])⟩
abbrev schedule.L0.Y0 := (List Int)  -- n2
abbrev schedule.L0.X0 := (List Int)
def schedule.L0.ex0 : schedule.L0.X0 → Exit × AS := fun x => (.exit 0, ⟨([.undef, .undef, .ptr (.new 2 0) 0 [] 0] ++ undN 58 []), [], ([[], [], [.obj 0 false (.d (.arr 64 (.int .u32)) x)]] ++ nilN 58 [])⟩)
abbrev schedule.L0.X := schedule.L0.X0
abbrev schedule.L0.Y := schedule.L0.Y0
def schedule.L0.out : schedule.L0.X → Out (Exit × AS) := fun x => .ok (schedule.L0.ex0 x)
def schedule.L0.add : schedule.L0.D → schedule.L0.Y → schedule.L0.X := fun (b_2, t8, n2) y => y
abbrev schedule.D := (List Int)
def schedule.st : schedule.D → List AVal × List Ent := fun b => ([.d (.slice (.int .u8)) b], [])
abbrev schedule.Y := (List Int)
abbrev schedule.X := (List Int)
def schedule.out : schedule.X → GRes := fun x => ⟨.d (.arr 64 (.int .u32)) x, [], []⟩
def schedule.add : schedule.D → schedule.Y → schedule.X := fun b y => y


def wl (l : List W) : List Int := l.map vw
def arrOf (l : List W) : List Int := wl l ++ List.replicate (64 - l.length) 0
def wsAt (b : List Int) (k : Nat) : List W := if k ≤ 16 then (words b).take k else wsN (words b) (k - 16)
def schedule.L0.Pre : schedule.L0.D → Prop := fun (b, t8, n2) => 64 ≤ b.length ∧ ∃ k : Nat, k ≤ 64 ∧ t8 = k ∧ n2 = arrOf (wsAt b k)
def schedule.L0.F : schedule.L0.D → schedule.L0.Y := fun (b, t8, n2) => wl (sched b)
def schedule.Pre : schedule.D → Prop := fun b => 64 ≤ b.length
def schedule.F : schedule.D → schedule.Y := fun b => wl (sched b)

noncomputable def schedule.G : Gam := gcons 167 anyArgs binary.E (gcons 150 anyArgs rotl32.E (gnil))
noncomputable def schedule.L0.E : LEntry := LEntry.of schedule.L0.st schedule.L0.Pre (fun d => schedule.L0.add d (schedule.L0.F d)) schedule.L0.out
noncomputable def schedule.L0.call : schedule.L0.D → Option schedule.L0.X := fun d => schedule.L0.E.run (schedule.L0.st d)
noncomputable def schedule.an : Ann := {
  objs := [],
  loops := fun r => bif Nat.beq r 2 then { keep := [0, 2, 8], sites := [2], frz := [], data := [], owns := [] } else { keep := [], sites := [], frz := [], data := [], owns := [] },
  outs := fun r b => bif Nat.beq r 2 then (bif b then { keep := [2], sites := [], frz := [], data := [], owns := [] } else { keep := [2], sites := [2], frz := [], data := [], owns := [] }) else { keep := [], sites := [], frz := [], data := [], owns := [] },
  sums := fun r => bif Nat.beq r 2 then some schedule.L0.E else none,
  owns := [],
  trim := [],
  res := [] }
theorem schedule.L0.inj : ∀ d d', schedule.L0.st d = schedule.L0.st d' → d = d' := fun (b_2, t8, n2) (b_2', t8', n2') hEq => by
  have e0 : b_2 = b_2' := d_inj (t := (.slice (.int .u8))) (congrArg (fun s : AS => (s.slot 0)) hEq)
  have e1 : t8 = t8' := d_inj (t := (.int .i64)) (congrArg (fun s : AS => (s.slot 8)) hEq)
  have e2 : n2 = n2' := d_inj (t := (.arr 64 (.int .u32))) (congrArg (fun s : AS => (entC (s.ent (.new 2 0)))) hEq)
  rw [e0, e1, e2]
theorem schedule.L0.run {d : schedule.L0.D} (h : schedule.L0.Pre d) : schedule.L0.call d = some (schedule.L0.add d (schedule.L0.F d)) := LEntry.of_run schedule.L0.inj h
theorem schedule.L0.byRounds (μ : schedule.L0.D → Nat) (h : ∀ d, schedule.L0.Pre d → (∃ d', schedule.L0.Pre d' ∧ μ d' < μ d ∧ schedule.L0.add d' (schedule.L0.F d') = schedule.L0.add d (schedule.L0.F d) ∧ ∀ {R : Type} (kn : AS → Option R) (kx : Exit → AS → Option R), lround Tryz.prog schedule.G schedule.an 0 Tryz.f148 0 (schedule.L0.st d) kn kx = kn (schedule.L0.st d')) ∨ (∀ {R : Type} (kn : AS → Option R) (kx : Exit → AS → Option R), lround Tryz.prog schedule.G schedule.an 0 Tryz.f148 0 (schedule.L0.st d) kn kx = kx (schedule.L0.ex0 (schedule.L0.add d (schedule.L0.F d))).1 (schedule.L0.ex0 (schedule.L0.add d (schedule.L0.F d))).2)) : ∀ d, schedule.L0.Pre d → ∃ n, lrun Tryz.prog schedule.G schedule.an 0 Tryz.f148 0 n (schedule.L0.st d) (fun e s => some (e, s)) = (schedule.L0.out (schedule.L0.add d (schedule.L0.F d))).eval := lrun_one (F := fun d => schedule.L0.add d (schedule.L0.F d)) μ h
theorem schedule.L0.step {R : Type} (b_2 : (List Int)) (t8 : Int) (n2 : (List Int)) (kn : AS → Option R) (kx : Exit → AS → Option R) : lround Tryz.prog schedule.G schedule.an 0 Tryz.f148 0 (schedule.L0.st (b_2, t8, n2)) kn kx =
  sel ((ilt t8 (64 : Int))) (
   sel ((ilt t8 (16 : Int))) (
    sel (inc (imul .i64 (4 : Int) t8) (((List.length b_2) : Nat) : Int)) (
    obind (binary.call (cut b_2 (Int.toNat (imul .i64 (4 : Int) t8)) ((List.length b_2) - (Int.toNat (imul .i64 (4 : Int) t8))))) fun x1 =>
    sel (inb t8 (64 : Int)) (
    sel (decide ((Int.toNat t8) < (List.length n2))) (
    sel (decide ((((Int.toNat t8) * 1) + 0) = (0 + ((Int.toNat t8) * 1)))) (
    sel (decide ((Int.toNat t8) < (List.length n2))) (
    kn (schedule.L0.st (b_2, (iadd .i64 t8 (1 : Int)), (List.set n2 (Int.toNat t8) x1)))) none) none) none) none) none) (
    sel (inb (isub .i64 t8 (15 : Int)) (64 : Int)) (
    sel (decide ((Int.toNat (isub .i64 t8 (15 : Int))) < (List.length n2))) (
    sel (decide ((((Int.toNat (isub .i64 t8 (15 : Int))) * 1) + 0) = (0 + ((Int.toNat (isub .i64 t8 (15 : Int))) * 1)))) (
    sel (inb (isub .i64 t8 (2 : Int)) (64 : Int)) (
    sel (decide ((Int.toNat (isub .i64 t8 (2 : Int))) < (List.length n2))) (
    sel (decide ((((Int.toNat (isub .i64 t8 (2 : Int))) * 1) + 0) = (0 + ((Int.toNat (isub .i64 t8 (2 : Int))) * 1)))) (
    obind (rotl32.call ((nth (.int .u32) n2 (Int.toNat (isub .i64 t8 (15 : Int)))), (-7 : Int))) fun x2 =>
    obind (rotl32.call ((nth (.int .u32) n2 (Int.toNat (isub .i64 t8 (15 : Int)))), (-18 : Int))) fun x3 =>
    obind (rotl32.call ((nth (.int .u32) n2 (Int.toNat (isub .i64 t8 (2 : Int)))), (-17 : Int))) fun x4 =>
    obind (rotl32.call ((nth (.int .u32) n2 (Int.toNat (isub .i64 t8 (2 : Int)))), (-19 : Int))) fun x5 =>
    sel (inb (isub .i64 t8 (16 : Int)) (64 : Int)) (
    sel (decide ((Int.toNat (isub .i64 t8 (16 : Int))) < (List.length n2))) (
    sel (decide ((((Int.toNat (isub .i64 t8 (16 : Int))) * 1) + 0) = (0 + ((Int.toNat (isub .i64 t8 (16 : Int))) * 1)))) (
    sel (inb (isub .i64 t8 (7 : Int)) (64 : Int)) (
    sel (decide ((Int.toNat (isub .i64 t8 (7 : Int))) < (List.length n2))) (
    sel (decide ((((Int.toNat (isub .i64 t8 (7 : Int))) * 1) + 0) = (0 + ((Int.toNat (isub .i64 t8 (7 : Int))) * 1)))) (
    sel (inb t8 (64 : Int)) (
    sel (decide ((Int.toNat t8) < (List.length n2))) (
    sel (decide ((((Int.toNat t8) * 1) + 0) = (0 + ((Int.toNat t8) * 1)))) (
    sel (decide ((Int.toNat t8) < (List.length n2))) (
    kn (schedule.L0.st (b_2, (iadd .i64 t8 (1 : Int)), (List.set n2 (Int.toNat t8) (iadd .u32 (iadd .u32 (iadd .u32 (nth (.int .u32) n2 (Int.toNat (isub .i64 t8 (16 : Int)))) (bitop .xor .u32 (bitop .xor .u32 x2 x3) (ishr .u32 (nth (.int .u32) n2 (Int.toNat (isub .i64 t8 (15 : Int)))) (3 : Int)))) (nth (.int .u32) n2 (Int.toNat (isub .i64 t8 (7 : Int))))) (bitop .xor .u32 (bitop .xor .u32 x4 x5) (ishr .u32 (nth (.int .u32) n2 (Int.toNat (isub .i64 t8 (2 : Int)))) (10 : Int)))))))) none) none) none) none) none) none) none) none) none) none) none) none) none) none) none) none)) (
   kx (schedule.L0.ex0 n2).1 (schedule.L0.ex0 n2).2) := by kernel_rfl
theorem schedule.eq {R : Type} (b : (List Int)) (k : GRes → Option R) : arun Tryz.prog schedule.G schedule.an 0 Tryz.f148 (schedule.st b).1 (schedule.st b).2 k =
  obind (schedule.L0.call (b, (0 : Int), (List.replicate 64 (0 : Int)))) fun x6 =>
  k (schedule.out x6) := by kernel_rfl


theorem wsAt_length (b : List Int) (k : Nat) (h : k ≤ 64) : (wsAt b k).length = k := by
  unfold wsAt
  split
  · simp [words_length]; omega
  · rw [wsN_length, words_length]; omega
theorem wsAt_64 (b : List Int) : wsAt b 64 = sched b := rfl
theorem wsAt_succ (b : List Int) (k : Nat) (h : k < 16) : wsAt b (k + 1) = wsAt b k ++ [be b k] := by
  unfold wsAt
  rw [if_pos (by omega), if_pos (by omega), List.take_succ_eq_append_getElem (by rw [words_length]; exact h)]
  simp [words]
theorem wsAt_ext (b : List Int) (k : Nat) (h : 16 ≤ k) : wsAt b (k + 1) = ext (wsAt b k) := by
  unfold wsAt
  rw [if_neg (by omega)]
  by_cases h16 : k = 16
  · subst h16
    rw [if_pos (by omega), List.take_of_length_le (by rw [words_length]; omega)]
    rfl
  · rw [if_neg (by omega), show k + 1 - 16 = (k - 16) + 1 by omega]
    rfl
theorem arrOf_length (l : List W) (h : l.length ≤ 64) : (arrOf l).length = 64 := by simp [arrOf, wl]; omega
theorem arrOf_get (l : List W) (i : Nat) (h : i < l.length) : nth (.int .u32) (arrOf l) i = vw (l.getD i 0) := by
  unfold nth arrOf wl
  rw [List.getD_eq_getElem?_getD, List.getElem?_append_left (by simpa using h)]
  simp [h]
theorem arrOf_set (l : List W) (w : W) (h : l.length < 64) : (arrOf l).set l.length (vw w) = arrOf (l ++ [w]) := by
  unfold arrOf wl
  rw [List.set_append_right _ _ (by simp)]
  simp only [List.length_map, Nat.sub_self, List.map_append, List.length_append, List.length_cons, List.length_nil]
  rw [show 64 - l.length = (64 - (l.length + (0 + 1))) + 1 by omega, List.replicate_succ, List.set_cons_zero]
  simp
theorem arrOf_full (l : List W) (h : l.length = 64) : arrOf l = wl l := by simp [arrOf, h]
theorem be_cut (b : List Int) (k : Nat) (h : 4 * k + 4 ≤ b.length) : be4 ((cut b (4 * k) (b.length - 4 * k)).getD 0 0) ((cut b (4 * k) (b.length - 4 * k)).getD 1 0) ((cut b (4 * k) (b.length - 4 * k)).getD 2 0) ((cut b (4 * k) (b.length - 4 * k)).getD 3 0) = be b k := by
  have e : ∀ j, j < 4 → (cut b (4 * k) (b.length - 4 * k)).getD j 0 = b.getD (4 * k + j) 0 := fun j hj => by
    unfold cut
    rw [List.getD_eq_getElem?_getD, List.getD_eq_getElem?_getD, List.getElem?_take_of_lt (by omega), List.getElem?_drop]
  unfold be
  rw [e 0 (by omega), e 1 (by omega), e 2 (by omega), e 3 (by omega), Nat.add_zero]
theorem rl_rotr (w : W) (k : Int) (n : Nat) (h1 : (k % 32).toNat = 32 - n) (h2 : n ≤ 32) : rl w (k % 32).toNat = rotr w n := by
  unfold rl rotr
  rw [h1, show 32 - (32 - n) = n by omega]
theorem schedule.L0.ok : ∀ d, schedule.L0.Pre d → ∃ n, lrun Tryz.prog schedule.G schedule.an 0 Tryz.f148 0 n (schedule.L0.st d) (fun e s => some (e, s)) = (schedule.L0.out (schedule.L0.add d (schedule.L0.F d))).eval := by
  refine schedule.L0.byRounds (fun (b, t8, n2) => 64 - t8.toNat) ?_
  rintro ⟨b, t8, n2⟩ ⟨hb, k, hk, rfl, rfl⟩
  have hwl := wsAt_length b k hk
  have hal := arrOf_length (wsAt b k) (by omega)
  by_cases h : k < 64
  · left
    refine ⟨(b, ((k + 1 : Nat) : Int), arrOf (wsAt b (k + 1))), ⟨hb, k + 1, by omega, rfl, rfl⟩, by simp; omega, rfl, fun kn kx => ?_⟩
    have e1 : iadd .i64 (k : Int) 1 = ((k + 1 : Nat) : Int) := by rw [iadd_i64 (by omega) (by omega)]; omega
    have e2 : Int.toNat (k : Int) = k := by omega
    rw [schedule.L0.step, ilt_true (by omega)]
    simp only [sel_true, e1, e2, hal, Nat.mul_one, Nat.zero_add, Nat.add_zero, decide_true]
    by_cases h16 : k < 16
    · have e3 : imul .i64 4 (k : Int) = ((4 * k : Nat) : Int) := by rw [imul_i64 (by omega) (by omega)]; omega
      have e4 : Int.toNat ((4 * k : Nat) : Int) = 4 * k := by omega
      rw [ilt_true (by omega), e3, inc_true (by omega) (by omega), e4, inb_true (by omega) (by omega), dec_true h]
      have hp : binary.Pre (cut b (4 * k) (b.length - 4 * k)) := by
        show 4 ≤ _
        rw [cut_length (by omega)]; omega
      simp only [sel_true, binary.run hp, obind_some]
      have e5 : binary.add (cut b (4 * k) (b.length - 4 * k)) (binary.F (cut b (4 * k) (b.length - 4 * k))) = vw (be b k) := by
        show vw (be4 _ _ _ _) = _
        rw [be_cut b k (by omega)]
      have e6 := arrOf_set (wsAt b k) (be b k) (by omega)
      rw [hwl] at e6
      rw [e5, e6, wsAt_succ b k h16]
    · have a15 : Int.toNat (isub .i64 (k : Int) 15) = k - 15 := by rw [isub_i64 (by omega) (by omega)]; omega
      have a2 : Int.toNat (isub .i64 (k : Int) 2) = k - 2 := by rw [isub_i64 (by omega) (by omega)]; omega
      have a16 : Int.toNat (isub .i64 (k : Int) 16) = k - 16 := by rw [isub_i64 (by omega) (by omega)]; omega
      have a7 : Int.toNat (isub .i64 (k : Int) 7) = k - 7 := by rw [isub_i64 (by omega) (by omega)]; omega
      have i15 : inb (isub .i64 (k : Int) 15) 64 = true := inb_true (by rw [isub_i64 (by omega) (by omega)]; omega) (by rw [isub_i64 (by omega) (by omega)]; omega)
      have i2 : inb (isub .i64 (k : Int) 2) 64 = true := inb_true (by rw [isub_i64 (by omega) (by omega)]; omega) (by rw [isub_i64 (by omega) (by omega)]; omega)
      have i16 : inb (isub .i64 (k : Int) 16) 64 = true := inb_true (by rw [isub_i64 (by omega) (by omega)]; omega) (by rw [isub_i64 (by omega) (by omega)]; omega)
      have i7 : inb (isub .i64 (k : Int) 7) 64 = true := inb_true (by rw [isub_i64 (by omega) (by omega)]; omega) (by rw [isub_i64 (by omega) (by omega)]; omega)
      have i0 : inb (k : Int) 64 = true := inb_true (by omega) (by omega)
      have d15 : decide (k - 15 < 64) = true := dec_true (by omega)
      have d2 : decide (k - 2 < 64) = true := dec_true (by omega)
      have d16 : decide (k - 16 < 64) = true := dec_true (by omega)
      have d7 : decide (k - 7 < 64) = true := dec_true (by omega)
      have d0 : decide (k < 64) = true := dec_true h
      rw [ilt_false (by omega)]
      simp only [sel_true, sel_false, a15, a2, a16, a7, i15, i2, i16, i7, i0, d15, d2, d16, d7, d0, arrOf_get (wsAt b k) (k - 15) (by omega), arrOf_get (wsAt b k) (k - 2) (by omega), arrOf_get (wsAt b k) (k - 16) (by omega), arrOf_get (wsAt b k) (k - 7) (by omega), rotl32.at, obind_some, bitop_u32, ishr_u32, iadd_u32]
      have e6 := arrOf_set (wsAt b k) (nextw (wsAt b k) k) (by omega)
      rw [hwl] at e6
      rw [wsAt_ext b k (by omega), ext, hwl, ← e6]
      rfl
  · right
    obtain rfl : k = 64 := by omega
    intro R kn kx
    rw [schedule.L0.step, ilt_false (by omega), arrOf_full _ hwl, wsAt_64]
    simp only [sel_false, schedule.L0.add, schedule.L0.F]
theorem schedule.ok : ∀ d, schedule.Pre d → arun Tryz.prog schedule.G schedule.an 0 Tryz.f148 (schedule.st d).1 (schedule.st d).2 some = some (schedule.out (schedule.add d (schedule.F d))) := by
  intro b hb
  have hp : schedule.L0.Pre (b, 0, List.replicate 64 0) := ⟨hb, 0, by omega, rfl, rfl⟩
  rw [schedule.eq, schedule.L0.run hp]
  simp only [obind_some, schedule.L0.add, schedule.L0.F, schedule.add, schedule.F]

theorem schedule.inj : ∀ d d', schedule.st d = schedule.st d' → d = d' := fun b b' hEq => by
  have e0 : b = b' := d_inj (t := (.slice (.int .u8))) (congrArg (fun s : List AVal × List Ent => (s.1.getD 0 .undef)) hEq)
  rw [e0]
noncomputable def schedule.E : Entry := Entry.of [some (.slice (.int .u8))] schedule.st schedule.Pre (fun d => schedule.add d (schedule.F d)) schedule.out
noncomputable def schedule.call : schedule.D → Option schedule.X := fun d => schedule.E.run (schedule.st d).1 (schedule.st d).2
theorem schedule.run {d : schedule.D} (h : schedule.Pre d) : schedule.call d = some (schedule.add d (schedule.F d)) := Entry.of_run schedule.inj h
theorem schedule.does : Does Tryz.prog 148 schedule.E := Does.of (by kernel_rfl) (show Sound _ schedule.G from Sound.cons binary.does (Sound.cons rotl32.does (Sound.nil _))) (by kernel_rfl) (by kernel_rfl) (by kernel_rfl) (LOk.fn 1 (by kernel_rfl) (And.intro (LDo.of (by kernel_rfl) schedule.L0.ok) trivial)) schedule.ok

end Go.Ab
namespace Go.Ab
open Go.Proofs
set_option maxRecDepth 100000
set_option linter.unusedVariables false
set_option linter.unusedSimpArgs false

/-! ### (corsned/hash.words).mix -/
abbrev mix.L0.D := (List Int) × Int × (List Int) × (List Int) × (List Int) × (List Int)
def mix.L0.st : mix.L0.D → AS := fun (h_2, t18, n4, n5, n6, n7) => ⟨([.undef, .undef, .rptr (.arr 8 (.int .u32)) h_2, .undef, .ptr (.new 4 0) 0 [] 0, .ptr (.new 5 0) 0 [] 0, .ptr (.new 6 0) 0 [] 0, .ptr (.new 7 0) 0 [] 0] ++ undN 10 ([.d (.int .i64) t18] ++ undN 98 [])), [], (nilN 4 ([[.obj 0 false (.d (.arr 8 (.int .u32)) n4)], [.obj 0 false (.d (.arr 64 (.int .u32)) n5)], [.obj 0 false (.d (.arr 64 (.int .u32)) n6)], [.obj 0 false (.d (.arr 8 (.int .u32)) n7)]] ++ nilN 109 []))⟩
abbrev mix.L0.Y0 := (List Int)  -- n7
abbrev mix.L0.X0 := ((List Int) × (List Int)) × ((List Int))
def mix.L0.ex0 : mix.L0.X0 → Exit × AS := fun x => (.exit 0, ⟨([.undef, .undef, .rptr (.arr 8 (.int .u32)) x.1.1, .undef, .ptr (.new 4 0) 0 [] 0, .undef, .undef, .ptr (.new 7 0) 0 [] 0] ++ undN 109 []), [], (nilN 4 ([[.obj 0 false (.d (.arr 8 (.int .u32)) x.1.2)], [], [], [.obj 0 false (.d (.arr 8 (.int .u32)) x.2)]] ++ nilN 109 []))⟩)
abbrev mix.L0.X := mix.L0.X0
abbrev mix.L0.Y := mix.L0.Y0
def mix.L0.out : mix.L0.X → Out (Exit × AS) := fun x => .ok (mix.L0.ex0 x)
def mix.L0.add : mix.L0.D → mix.L0.Y → mix.L0.X := fun (h_2, t18, n4, n5, n6, n7) y => ((h_2, n4), y)
abbrev mix.L1.D := (List Int) × Int × (List Int) × (List Int)
def mix.L1.st : mix.L1.D → AS := fun (h_3, t104, n4_2, n7_2) => ⟨([.undef, .undef, .rptr (.arr 8 (.int .u32)) h_3, .undef, .ptr (.new 4 0) 0 [] 0, .undef, .undef, .ptr (.new 7 0) 0 [] 0] ++ undN 96 ([.d (.int .i64) t104] ++ undN 12 [])), [], (nilN 4 ([[.obj 0 false (.d (.arr 8 (.int .u32)) n4_2)], [], [], [.obj 0 false (.d (.arr 8 (.int .u32)) n7_2)]] ++ nilN 109 []))⟩
abbrev mix.L1.Y0 := (List Int)  -- n7
abbrev mix.L1.X0 := ((List Int)) × ((List Int))
def mix.L1.ex0 : mix.L1.X0 → Exit × AS := fun x => (.exit 2, ⟨(undN 4 ([.ptr (.new 4 0) 0 [] 0, .undef, .undef, .ptr (.new 7 0) 0 [] 0] ++ undN 109 [])), [], (nilN 4 ([[.obj 0 false (.d (.arr 8 (.int .u32)) x.1)], [], [], [.obj 0 false (.d (.arr 8 (.int .u32)) x.2)]] ++ nilN 109 []))⟩)
abbrev mix.L1.X := mix.L1.X0
abbrev mix.L1.Y := mix.L1.Y0
def mix.L1.out : mix.L1.X → Out (Exit × AS) := fun x => .ok (mix.L1.ex0 x)
def mix.L1.add : mix.L1.D → mix.L1.Y → mix.L1.X := fun (h_3, t104, n4_2, n7_2) y => (n4_2, y)
abbrev mix.D := (List Int) × (List Int)
def mix.st : mix.D → List AVal × List Ent := fun (h, b) => ([.d (.arr 8 (.int .u32)) h, .d (.slice (.int .u8)) b], [])
abbrev mix.Y := (List Int)
abbrev mix.X := (List Int)
def mix.out : mix.X → GRes := fun x => ⟨.d (.arr 8 (.int .u32)) x, [], []⟩
def mix.add : mix.D → mix.Y → mix.X := fun (h, b) y => y


def toSt (l : List Int) : St := ⟨BitVec.ofInt 32 (l.getD 0 0), BitVec.ofInt 32 (l.getD 1 0), BitVec.ofInt 32 (l.getD 2 0), BitVec.ofInt 32 (l.getD 3 0), BitVec.ofInt 32 (l.getD 4 0), BitVec.ofInt 32 (l.getD 5 0), BitVec.ofInt 32 (l.getD 6 0), BitVec.ofInt 32 (l.getD 7 0)⟩
theorem toSt_l (s : St) : toSt s.l = s := by
  obtain ⟨a, b, c, d, e, f, g, h⟩ := s
  simp [toSt, St.l, ofInt_vw]
def unwl (l : List Int) : List W := l.map (BitVec.ofInt 32)
theorem unwl_wl (l : List W) : unwl (wl l) = l := by
  unfold unwl wl
  rw [List.map_map]
  have : (BitVec.ofInt 32 ∘ vw) = (id : W → W) := by funext w; exact ofInt_vw w
  rw [this, List.map_id]
def mix.L0.Pre : mix.L0.D → Prop := fun (h, t, n4, n5, n6, n7) => ∃ (s : St) (ws : List W) (k : Nat), h = s.l ∧ n5 = wl ws ∧ ws.length = 64 ∧ k ≤ 64 ∧ t = k ∧ n6 = kint ∧ n7 = (rounds ws s k).l
def mix.L0.F : mix.L0.D → mix.L0.Y := fun (h, t, n4, n5, n6, n7) => (rounds (unwl n5) (toSt h) 64).l
def mix.L1.Pre : mix.L1.D → Prop := fun (h, t, n4, n7) => n7.length = 8 ∧ ∃ k : Nat, k ≤ 8 ∧ t = k
def mix.L1.F : mix.L1.D → mix.L1.Y := fun (h, t, n4, n7) => from_ (fun i x => iadd .u32 x (nth (.int .u32) h i)) t.toNat n7
def mix.Pre : mix.D → Prop := fun (h, b) => (∃ s : St, h = s.l) ∧ 64 ≤ b.length
def mix.F : mix.D → mix.Y := fun (h, b) => (mixS (toSt h) b).l

noncomputable def mix.G : Gam := gcons 148 anyArgs schedule.E (gcons 149 anyArgs table.E (gcons 150 anyArgs rotl32.E (gnil)))
noncomputable def mix.L0.E : LEntry := LEntry.of mix.L0.st mix.L0.Pre (fun d => mix.L0.add d (mix.L0.F d)) mix.L0.out
noncomputable def mix.L0.call : mix.L0.D → Option mix.L0.X := fun d => mix.L0.E.run (mix.L0.st d)
noncomputable def mix.L1.E : LEntry := LEntry.of mix.L1.st mix.L1.Pre (fun d => mix.L1.add d (mix.L1.F d)) mix.L1.out
noncomputable def mix.L1.call : mix.L1.D → Option mix.L1.X := fun d => mix.L1.E.run (mix.L1.st d)
noncomputable def mix.an : Ann := {
  objs := [],
  loops := fun r => bif Nat.beq r 4 then { keep := [2, 4, 5, 6, 7, 18], sites := [4, 5, 6, 7], frz := [], data := [], owns := [] } else bif Nat.beq r 13 then { keep := [2, 4, 7, 104], sites := [4, 7], frz := [], data := [], owns := [] } else { keep := [], sites := [], frz := [], data := [], owns := [] },
  outs := fun r b => bif Nat.beq r 4 then (bif b then { keep := [4], sites := [], frz := [], data := [], owns := [] } else { keep := [2, 4, 7], sites := [4, 7], frz := [], data := [], owns := [] }) else bif Nat.beq r 13 then (bif b then { keep := [4], sites := [], frz := [], data := [], owns := [] } else { keep := [4, 7], sites := [4, 7], frz := [], data := [], owns := [] }) else { keep := [], sites := [], frz := [], data := [], owns := [] },
  sums := fun r => bif Nat.beq r 4 then some mix.L0.E else bif Nat.beq r 13 then some mix.L1.E else none,
  owns := [],
  trim := [],
  res := [] }
theorem mix.L0.inj : ∀ d d', mix.L0.st d = mix.L0.st d' → d = d' := fun (h_2, t18, n4, n5, n6, n7) (h_2', t18', n4', n5', n6', n7') hEq => by
  have e0 : h_2 = h_2' := rptr_inj (t := (.arr 8 (.int .u32))) (congrArg (fun s : AS => (s.slot 2)) hEq)
  have e1 : t18 = t18' := d_inj (t := (.int .i64)) (congrArg (fun s : AS => (s.slot 18)) hEq)
  have e2 : n4 = n4' := d_inj (t := (.arr 8 (.int .u32))) (congrArg (fun s : AS => (entC (s.ent (.new 4 0)))) hEq)
  have e3 : n5 = n5' := d_inj (t := (.arr 64 (.int .u32))) (congrArg (fun s : AS => (entC (s.ent (.new 5 0)))) hEq)
  have e4 : n6 = n6' := d_inj (t := (.arr 64 (.int .u32))) (congrArg (fun s : AS => (entC (s.ent (.new 6 0)))) hEq)
  have e5 : n7 = n7' := d_inj (t := (.arr 8 (.int .u32))) (congrArg (fun s : AS => (entC (s.ent (.new 7 0)))) hEq)
  rw [e0, e1, e2, e3, e4, e5]
theorem mix.L0.run {d : mix.L0.D} (h : mix.L0.Pre d) : mix.L0.call d = some (mix.L0.add d (mix.L0.F d)) := LEntry.of_run mix.L0.inj h
theorem mix.L0.byRounds (μ : mix.L0.D → Nat) (h : ∀ d, mix.L0.Pre d → (∃ d', mix.L0.Pre d' ∧ μ d' < μ d ∧ mix.L0.add d' (mix.L0.F d') = mix.L0.add d (mix.L0.F d) ∧ ∀ {R : Type} (kn : AS → Option R) (kx : Exit → AS → Option R), lround Tryz.prog mix.G mix.an 0 Tryz.f111 0 (mix.L0.st d) kn kx = kn (mix.L0.st d')) ∨ (∀ {R : Type} (kn : AS → Option R) (kx : Exit → AS → Option R), lround Tryz.prog mix.G mix.an 0 Tryz.f111 0 (mix.L0.st d) kn kx = kx (mix.L0.ex0 (mix.L0.add d (mix.L0.F d))).1 (mix.L0.ex0 (mix.L0.add d (mix.L0.F d))).2)) : ∀ d, mix.L0.Pre d → ∃ n, lrun Tryz.prog mix.G mix.an 0 Tryz.f111 0 n (mix.L0.st d) (fun e s => some (e, s)) = (mix.L0.out (mix.L0.add d (mix.L0.F d))).eval := lrun_one (F := fun d => mix.L0.add d (mix.L0.F d)) μ h
theorem mix.L0.step {R : Type} (h_2 : (List Int)) (t18 : Int) (n4 : (List Int)) (n5 : (List Int)) (n6 : (List Int)) (n7 : (List Int)) (kn : AS → Option R) (kx : Exit → AS → Option R) : lround Tryz.prog mix.G mix.an 0 Tryz.f111 0 (mix.L0.st (h_2, t18, n4, n5, n6, n7)) kn kx =
  sel ((ilt t18 (64 : Int))) (
   sel (decide (4 < (List.length n7))) (
   obind (rotl32.call ((nth (.int .u32) n7 4), (-6 : Int))) fun x1 =>
   sel (decide (4 < (List.length n7))) (
   obind (rotl32.call ((nth (.int .u32) n7 4), (-11 : Int))) fun x2 =>
   sel (decide (4 < (List.length n7))) (
   obind (rotl32.call ((nth (.int .u32) n7 4), (-25 : Int))) fun x3 =>
   sel (decide (7 < (List.length n7))) (
   sel (decide (6 < (List.length n7))) (
   sel (decide (4 < (List.length n7))) (
   sel (decide (5 < (List.length n7))) (
   sel (decide (6 < (List.length n7))) (
   sel (inb t18 (64 : Int)) (
   sel (decide ((Int.toNat t18) < (List.length n6))) (
   sel (decide ((((Int.toNat t18) * 1) + 0) = (0 + ((Int.toNat t18) * 1)))) (
   sel (inb t18 (64 : Int)) (
   sel (decide ((Int.toNat t18) < (List.length n5))) (
   sel (decide ((((Int.toNat t18) * 1) + 0) = (0 + ((Int.toNat t18) * 1)))) (
   sel (decide (0 < (List.length n7))) (
   obind (rotl32.call ((nth (.int .u32) n7 0), (-2 : Int))) fun x4 =>
   sel (decide (0 < (List.length n7))) (
   obind (rotl32.call ((nth (.int .u32) n7 0), (-13 : Int))) fun x5 =>
   sel (decide (0 < (List.length n7))) (
   obind (rotl32.call ((nth (.int .u32) n7 0), (-22 : Int))) fun x6 =>
   sel (decide (0 < (List.length n7))) (
   sel (decide (1 < (List.length n7))) (
   sel (decide (2 < (List.length n7))) (
   sel (decide (0 < (List.length n7))) (
   sel (decide (1 < (List.length n7))) (
   sel (decide (0 < (List.length n7))) (
   sel (decide (1 < (List.length n7))) (
   sel (decide (2 < (List.length n7))) (
   sel (decide (3 < (List.length n7))) (
   sel (decide (4 < (List.length n7))) (
   sel (decide (5 < (List.length n7))) (
   sel (decide (6 < (List.length n7))) (
   kn (mix.L0.st (h_2, (iadd .i64 t18 (1 : Int)), n4, n5, n6, [(iadd .u32 (iadd .u32 (iadd .u32 (iadd .u32 (iadd .u32 (iadd .u32 (nth (.int .u32) n7 7) (bitop .xor .u32 (bitop .xor .u32 x1 x2) x3)) (bitop .xor .u32 (nth (.int .u32) n7 6) (bitop .and .u32 (nth (.int .u32) n7 4) (bitop .xor .u32 (nth (.int .u32) n7 5) (nth (.int .u32) n7 6))))) (nth (.int .u32) n6 (Int.toNat t18))) (nth (.int .u32) n5 (Int.toNat t18))) (bitop .xor .u32 (bitop .xor .u32 x4 x5) x6)) (bitop .or .u32 (bitop .and .u32 (nth (.int .u32) n7 0) (nth (.int .u32) n7 1)) (bitop .and .u32 (nth (.int .u32) n7 2) (bitop .or .u32 (nth (.int .u32) n7 0) (nth (.int .u32) n7 1))))), (nth (.int .u32) n7 0), (nth (.int .u32) n7 1), (nth (.int .u32) n7 2), (iadd .u32 (nth (.int .u32) n7 3) (iadd .u32 (iadd .u32 (iadd .u32 (iadd .u32 (nth (.int .u32) n7 7) (bitop .xor .u32 (bitop .xor .u32 x1 x2) x3)) (bitop .xor .u32 (nth (.int .u32) n7 6) (bitop .and .u32 (nth (.int .u32) n7 4) (bitop .xor .u32 (nth (.int .u32) n7 5) (nth (.int .u32) n7 6))))) (nth (.int .u32) n6 (Int.toNat t18))) (nth (.int .u32) n5 (Int.toNat t18)))), (nth (.int .u32) n7 4), (nth (.int .u32) n7 5), (nth (.int .u32) n7 6)]))) none) none) none) none) none) none) none) none) none) none) none) none) none) none) none) none) none) none) none) none) none) none) none) none) none) none) none) none) none) (
   kx (mix.L0.ex0 ((h_2, n4), n7)).1 (mix.L0.ex0 ((h_2, n4), n7)).2) := by kernel_rfl
theorem mix.L1.inj : ∀ d d', mix.L1.st d = mix.L1.st d' → d = d' := fun (h_3, t104, n4_2, n7_2) (h_3', t104', n4_2', n7_2') hEq => by
  have e0 : h_3 = h_3' := rptr_inj (t := (.arr 8 (.int .u32))) (congrArg (fun s : AS => (s.slot 2)) hEq)
  have e1 : t104 = t104' := d_inj (t := (.int .i64)) (congrArg (fun s : AS => (s.slot 104)) hEq)
  have e2 : n4_2 = n4_2' := d_inj (t := (.arr 8 (.int .u32))) (congrArg (fun s : AS => (entC (s.ent (.new 4 0)))) hEq)
  have e3 : n7_2 = n7_2' := d_inj (t := (.arr 8 (.int .u32))) (congrArg (fun s : AS => (entC (s.ent (.new 7 0)))) hEq)
  rw [e0, e1, e2, e3]
theorem mix.L1.run {d : mix.L1.D} (h : mix.L1.Pre d) : mix.L1.call d = some (mix.L1.add d (mix.L1.F d)) := LEntry.of_run mix.L1.inj h
theorem mix.L1.byRounds (μ : mix.L1.D → Nat) (h : ∀ d, mix.L1.Pre d → (∃ d', mix.L1.Pre d' ∧ μ d' < μ d ∧ mix.L1.add d' (mix.L1.F d') = mix.L1.add d (mix.L1.F d) ∧ ∀ {R : Type} (kn : AS → Option R) (kx : Exit → AS → Option R), lround Tryz.prog mix.G mix.an 0 Tryz.f111 1 (mix.L1.st d) kn kx = kn (mix.L1.st d')) ∨ (∀ {R : Type} (kn : AS → Option R) (kx : Exit → AS → Option R), lround Tryz.prog mix.G mix.an 0 Tryz.f111 1 (mix.L1.st d) kn kx = kx (mix.L1.ex0 (mix.L1.add d (mix.L1.F d))).1 (mix.L1.ex0 (mix.L1.add d (mix.L1.F d))).2)) : ∀ d, mix.L1.Pre d → ∃ n, lrun Tryz.prog mix.G mix.an 0 Tryz.f111 1 n (mix.L1.st d) (fun e s => some (e, s)) = (mix.L1.out (mix.L1.add d (mix.L1.F d))).eval := lrun_one (F := fun d => mix.L1.add d (mix.L1.F d)) μ h
theorem mix.L1.step {R : Type} (h_3 : (List Int)) (t104 : Int) (n4_2 : (List Int)) (n7_2 : (List Int)) (kn : AS → Option R) (kx : Exit → AS → Option R) : lround Tryz.prog mix.G mix.an 0 Tryz.f111 1 (mix.L1.st (h_3, t104, n4_2, n7_2)) kn kx =
  sel ((ilt t104 (8 : Int))) (
   sel (inb t104 (8 : Int)) (
   sel (decide ((Int.toNat t104) < (List.length n7_2))) (
   sel (decide ((((Int.toNat t104) * 1) + 0) = (0 + ((Int.toNat t104) * 1)))) (
   sel (inb t104 (8 : Int)) (
   sel (inb t104 (8 : Int)) (
   sel (decide ((Int.toNat t104) < (List.length n7_2))) (
   sel (decide ((((Int.toNat t104) * 1) + 0) = (0 + ((Int.toNat t104) * 1)))) (
   sel (decide ((Int.toNat t104) < (List.length n7_2))) (
   kn (mix.L1.st (h_3, (iadd .i64 t104 (1 : Int)), n4_2, (List.set n7_2 (Int.toNat t104) (iadd .u32 (nth (.int .u32) n7_2 (Int.toNat t104)) (nth (.int .u32) h_3 (Int.toNat t104))))))) none) none) none) none) none) none) none) none) (
   kx (mix.L1.ex0 (n4_2, n7_2)).1 (mix.L1.ex0 (n4_2, n7_2)).2) := by kernel_rfl
theorem mix.eq {R : Type} (h : (List Int)) (b : (List Int)) (k : GRes → Option R) : arun Tryz.prog mix.G mix.an 0 Tryz.f111 (mix.st (h, b)).1 (mix.st (h, b)).2 k =
  obind (schedule.call b) fun x1 =>
  obind (table.call ()) fun x2 =>
  obind (mix.L0.call (h, (0 : Int), (List.replicate 8 (0 : Int)), x1, x2, h)) fun x9 =>
  obind (mix.L1.call (x9.1.1, (0 : Int), x9.1.2, x9.2)) fun x10 =>
  k (mix.out x10.2) := by kernel_rfl


theorem St.l_length (s : St) : s.l.length = 8 := rfl
theorem kint_length : kint.length = 64 := rfl
theorem kint_get (k : Nat) (h : k < 64) : nth (.int .u32) kint k = vw (kw k) := by
  have hh : ∀ k : Fin 64, nth (.int .u32) kint k.val = vw (kw k.val) := by decide +kernel
  exact hh ⟨k, h⟩
theorem wl_get (ws : List W) (k : Nat) (h : k < ws.length) : nth (.int .u32) (wl ws) k = vw (ws.getD k 0) := by
  unfold nth wl
  simp [h]
theorem rl6 (w : W) : rl w ((-6 : Int) % 32).toNat = rotr w 6 := rfl
theorem rl11 (w : W) : rl w ((-11 : Int) % 32).toNat = rotr w 11 := rfl
theorem rl25 (w : W) : rl w ((-25 : Int) % 32).toNat = rotr w 25 := rfl
theorem rl2 (w : W) : rl w ((-2 : Int) % 32).toNat = rotr w 2 := rfl
theorem rl13 (w : W) : rl w ((-13 : Int) % 32).toNat = rotr w 13 := rfl
theorem rl22 (w : W) : rl w ((-22 : Int) % 32).toNat = rotr w 22 := rfl
theorem n0 (s : St) : nth (.int .u32) s.l 0 = vw s.a := rfl
theorem n1 (s : St) : nth (.int .u32) s.l 1 = vw s.b := rfl
theorem n2 (s : St) : nth (.int .u32) s.l 2 = vw s.c := rfl
theorem n3 (s : St) : nth (.int .u32) s.l 3 = vw s.d := rfl
theorem n4 (s : St) : nth (.int .u32) s.l 4 = vw s.e := rfl
theorem n5 (s : St) : nth (.int .u32) s.l 5 = vw s.f := rfl
theorem n6 (s : St) : nth (.int .u32) s.l 6 = vw s.g := rfl
theorem n7 (s : St) : nth (.int .u32) s.l 7 = vw s.h := rfl
theorem mix.L0.ok : ∀ d, mix.L0.Pre d → ∃ n, lrun Tryz.prog mix.G mix.an 0 Tryz.f111 0 n (mix.L0.st d) (fun e s => some (e, s)) = (mix.L0.out (mix.L0.add d (mix.L0.F d))).eval := by
  refine mix.L0.byRounds (fun (h, t, n4, n5, n6, n7) => 64 - t.toNat) ?_
  rintro ⟨h, t, m4, m5, m6, m7⟩ ⟨s, ws, k, rfl, rfl, hw, hk, rfl, rfl, rfl⟩
  by_cases hlt : k < 64
  · left
    refine ⟨(s.l, ((k + 1 : Nat) : Int), m4, wl ws, kint, (rounds ws s (k + 1)).l), ⟨s, ws, k + 1, rfl, rfl, hw, by omega, rfl, rfl, rfl⟩, by simp; omega, rfl, fun kn kx => ?_⟩
    have e1 : iadd .i64 (k : Int) 1 = ((k + 1 : Nat) : Int) := by rw [iadd_i64 (by omega) (by omega)]; omega
    have e2 : Int.toNat (k : Int) = k := by omega
    have hwl : (wl ws).length = 64 := by simp [wl, hw]
    have d0 : decide (k < 64) = true := dec_true hlt
    have i0 : inb (k : Int) 64 = true := inb_true (by omega) (by omega)
    rw [mix.L0.step, ilt_true (by omega)]
    generalize hv : rounds ws s k = v
    simp only [e1, e2, Nat.mul_one, Nat.zero_add, Nat.add_zero, decide_true, sel_true, St.l_length, Nat.reduceLT, kint_length, hwl, d0, i0, n0, n1, n2, n3, n4, n5, n6, n7, rotl32.at, obind_some, kint_get k hlt, wl_get ws k (by omega), bitop_u32, iadd_u32, rl6, rl11, rl25, rl2, rl13, rl22]
    show kn _ = kn (mix.L0.st (s.l, ((k + 1 : Nat) : Int), m4, wl ws, kint, (rnd (rounds ws s k) (kw k) (ws.getD k 0)).l))
    rw [hv]
    rfl
  · right
    obtain rfl : k = 64 := by omega
    intro R kn kx
    rw [mix.L0.step, ilt_false (by omega)]
    simp only [sel_false, mix.L0.add, mix.L0.F, unwl_wl, toSt_l]
theorem mix.L1.ok : ∀ d, mix.L1.Pre d → ∃ n, lrun Tryz.prog mix.G mix.an 0 Tryz.f111 1 n (mix.L1.st d) (fun e s => some (e, s)) = (mix.L1.out (mix.L1.add d (mix.L1.F d))).eval := by
  refine mix.L1.byRounds (fun (h, t, n4, n7) => 8 - t.toNat) ?_
  rintro ⟨h, t, m4, m7⟩ ⟨hl, k, hk, rfl⟩
  have hl : m7.length = 8 := hl
  have e2 : Int.toNat (k : Int) = k := by omega
  have e3 : Int.toNat ((k + 1 : Nat) : Int) = k + 1 := by omega
  by_cases hlt : k < 8
  · left
    have e1 : iadd .i64 (k : Int) 1 = ((k + 1 : Nat) : Int) := by rw [iadd_i64 (by omega) (by omega)]; omega
    have hn : nth (.int .u32) m7 k = m7[k] := nth_lt (t := .int .u32) (by omega)
    refine ⟨(h, ((k + 1 : Nat) : Int), m4, m7.set k (iadd .u32 m7[k] (nth (.int .u32) h k))), ⟨by simpa using hl, k + 1, by omega, rfl⟩, by simp; omega, ?_, fun kn kx => ?_⟩
    · simp only [mix.L1.add, mix.L1.F, e2, e3]
      rw [from_step (fun i x => iadd .u32 x (nth (.int .u32) h i)) m7 k (by omega)]
    · have d0 : decide (k < 8) = true := dec_true hlt
      have i0 : inb (k : Int) 8 = true := inb_true (by omega) (by omega)
      rw [mix.L1.step, ilt_true (by omega)]
      simp only [e1, e2, Nat.mul_one, Nat.zero_add, Nat.add_zero, decide_true, sel_true, hl, d0, i0, hn]
  · right
    obtain rfl : k = 8 := by omega
    intro R kn kx
    rw [mix.L1.step, ilt_false (by omega)]
    simp only [sel_false, mix.L1.add, mix.L1.F, e2]
    rw [from_end _ _ _ (by omega)]
theorem mix.ok : ∀ d, mix.Pre d → arun Tryz.prog mix.G mix.an 0 Tryz.f111 (mix.st d).1 (mix.st d).2 some = some (mix.out (mix.add d (mix.F d))) := by
  rintro ⟨h, b⟩ ⟨⟨s, rfl⟩, hb⟩
  have hs : schedule.Pre b := hb
  have hsl : (sched b).length = 64 := by unfold sched; rw [wsN_length, words_length]
  have hp : mix.L0.Pre (s.l, 0, List.replicate 8 0, wl (sched b), kint, s.l) := ⟨s, sched b, 0, rfl, rfl, hsl, by omega, rfl, rfl, rfl⟩
  rw [mix.eq, schedule.run hs]
  simp only [obind_some, table.run (d := ()) trivial, schedule.add, schedule.F, table.add, table.F, mix.L0.run hp, mix.L0.add, mix.L0.F, unwl_wl, toSt_l]
  have hp1 : mix.L1.Pre (s.l, 0, List.replicate 8 0, (rounds (sched b) s 64).l) := ⟨rfl, 0, by omega, rfl⟩
  simp only [mix.L1.run hp1, obind_some, mix.L1.add, mix.L1.F, mix.add, mix.F, toSt_l]
  unfold mixS
  generalize rounds (sched b) s 64 = v
  obtain ⟨a1, b1, c1, d1, f1, g1, h1, i1⟩ := v
  simp only [St.l, from_, List.mapIdx_cons, List.mapIdx_nil, Int.toNat_zero, Nat.not_lt_zero, if_false, Nat.zero_add, Nat.reduceAdd]
  simp only [nth, List.getD_cons_zero, List.getD_cons_succ, iadd_u32]

theorem mix.inj : ∀ d d', mix.st d = mix.st d' → d = d' := fun (h, b) (h', b') hEq => by
  have e0 : h = h' := d_inj (t := (.arr 8 (.int .u32))) (congrArg (fun s : List AVal × List Ent => (s.1.getD 0 .undef)) hEq)
  have e1 : b = b' := d_inj (t := (.slice (.int .u8))) (congrArg (fun s : List AVal × List Ent => (s.1.getD 1 .undef)) hEq)
  rw [e0, e1]
noncomputable def mix.E : Entry := Entry.of [some (.arr 8 (.int .u32)), some (.slice (.int .u8))] mix.st mix.Pre (fun d => mix.add d (mix.F d)) mix.out
noncomputable def mix.call : mix.D → Option mix.X := fun d => mix.E.run (mix.st d).1 (mix.st d).2
theorem mix.run {d : mix.D} (h : mix.Pre d) : mix.call d = some (mix.add d (mix.F d)) := Entry.of_run mix.inj h
theorem mix.does : Does Tryz.prog 111 mix.E := Does.of (by kernel_rfl) (show Sound _ mix.G from Sound.cons schedule.does (Sound.cons table.does (Sound.cons rotl32.does (Sound.nil _)))) (by kernel_rfl) (by kernel_rfl) (by kernel_rfl) (LOk.fn 2 (by kernel_rfl) (And.intro (LDo.of (by kernel_rfl) mix.L0.ok) (And.intro (LDo.of (by kernel_rfl) mix.L1.ok) trivial))) mix.ok

end Go.Ab
namespace Go.Ab
open Go.Proofs
set_option maxRecDepth 100000
set_option linter.unusedVariables false
set_option linter.unusedSimpArgs false


theorem long_byte (n : Int) (k : Int) (h0 : 0 ≤ k) (h1 : k ≤ 64) : icv .u8 (ishr .i64 n k) = n / 2 ^ k.toNat % 256 := by
  rw [icv_u8, vw_ofInt, ishr]
  have e : min k.toNat IntKind.i64.bits = k.toNat := by simp only [IntKind.bits]; omega
  rw [e, Int.fdiv_eq_ediv_of_nonneg _ (Int.le_of_lt (Int.pow_pos (by omega)))]
  rfl
theorem room1 {n : Nat} (h : n ≤ 140737488355328) : roomA n 1 = true := room_true (by omega) (by omega)

/-! ### slices.Clone[[]byte,byte] -/
abbrev clone8.D := (List Int)
def clone8.st : clone8.D → List AVal × List Ent := fun sv => ([.d (.slice (.int .u8)) sv], [])
abbrev clone8.Y := Nat × (List Int)
abbrev clone8.X := Nat × (List Int)
def clone8.out : clone8.X → GRes := fun x => ⟨.sref (.new 0 0) 0 [] 0 0 x.1, [], [.obj 0 false (.vec 5 (.int .u8) x.2)]⟩
def clone8.add : clone8.D → clone8.Y → clone8.X := fun sv y => y


def clone8.Pre : clone8.D → Prop := fun b => b.length ≤ 140737488355328
def clone8.F : clone8.D → clone8.Y := fun b => (b.length, b)

noncomputable def clone8.G : Gam := gnil
noncomputable def clone8.an : Ann := {
  objs := [5],
  loops := fun r => { keep := [], sites := [], frz := [], data := [], owns := [] },
  outs := fun r b => { keep := [], sites := [], frz := [], data := [], owns := [] },
  sums := fun r => none,
  owns := [⟨2, [], 5, 25⟩],
  trim := [],
  res := [] }
theorem clone8.eq {R : Type} (sv : (List Int)) (k : GRes → Option R) : arun Tryz.prog clone8.G clone8.an 0 Tryz.f108 (clone8.st sv).1 (clone8.st sv).2 k =
  sel (decide (0 < (List.length sv))) (
   sel (roomA (0 + (List.length sv)) 1) (
   k (clone8.out ((0 + (List.length sv)), ((List.take 0 (List.replicate 0 (0 : Int))) ++ sv)))) none) (
   nd (
    k (clone8.out (0, ([] : List Int)))) (
    sel (roomA (0 + (List.length sv)) 1) (
    k (clone8.out ((0 + (List.length sv)), ((List.take 0 (List.replicate 0 (0 : Int))) ++ sv)))) none)) := by kernel_rfl


theorem clone8.ok : ∀ d, clone8.Pre d → arun Tryz.prog clone8.G clone8.an 0 Tryz.f108 (clone8.st d).1 (clone8.st d).2 some = some (clone8.out (clone8.add d (clone8.F d))) := by
  intro b hb
  have hr : roomA b.length 1 = true := room1 hb
  rw [clone8.eq]
  have e0 : (List.take 0 (List.replicate 0 0) : List Int) = [] := rfl
  simp only [Nat.zero_add, hr, sel_true, e0, List.nil_append, clone8.add, clone8.F]
  by_cases h : 0 < b.length
  · simp only [dec_true h, sel_true]
  · have : b = [] := List.eq_nil_of_length_eq_zero (by omega)
    subst this
    simp only [List.length_nil, nd_same, dec_false (Nat.lt_irrefl 0), sel_false]

theorem clone8.inj : ∀ d d', clone8.st d = clone8.st d' → d = d' := fun sv sv' hEq => by
  have e0 : sv = sv' := d_inj (t := (.slice (.int .u8))) (congrArg (fun s : List AVal × List Ent => (s.1.getD 0 .undef)) hEq)
  rw [e0]
noncomputable def clone8.E : Entry := Entry.of [some (.slice (.int .u8))] clone8.st clone8.Pre (fun d => clone8.add d (clone8.F d)) clone8.out
noncomputable def clone8.call : clone8.D → Option clone8.X := fun d => clone8.E.run (clone8.st d).1 (clone8.st d).2
theorem clone8.run {d : clone8.D} (h : clone8.Pre d) : clone8.call d = some (clone8.add d (clone8.F d)) := Entry.of_run clone8.inj h
theorem clone8.does : Does Tryz.prog 108 clone8.E := Does.of (by kernel_rfl) (show Sound _ clone8.G from Sound.nil _) (by kernel_rfl) (by kernel_rfl) (by kernel_rfl) (LOk.fn 0 (by kernel_rfl) trivial) clone8.ok

/-! ### corsned/hash.long -/
abbrev longn.D := Int
def longn.st : longn.D → List AVal × List Ent := fun n => ([.nils, .d (.int .i64) n], [])
abbrev longn.Y := Nat × (List Int)
abbrev longn.X := Nat × (List Int)
def longn.out : longn.X → GRes := fun x => ⟨.sref (.new 0 0) 0 [] 0 0 x.1, [], [.obj 0 false (.vec 5 (.int .u8) x.2)]⟩
def longn.add : longn.D → longn.Y → longn.X := fun n y => y


def longn.Pre : longn.D → Prop := fun _ => True
def longn.F : longn.D → longn.Y := fun n => (8, be8 n)

noncomputable def longn.G : Gam := gnil
noncomputable def longn.an : Ann := {
  objs := [],
  loops := fun r => bif Nat.beq r 2 then { keep := [0, 1, 5], sites := [16], frz := [], data := [], owns := [] } else { keep := [], sites := [], frz := [], data := [], owns := [] },
  outs := fun r b => bif Nat.beq r 2 then (bif b then { keep := [4], sites := [16], frz := [], data := [], owns := [] } else { keep := [0], sites := [16], frz := [], data := [], owns := [] }) else { keep := [], sites := [], frz := [], data := [], owns := [] },
  sums := fun r => none,
  owns := [⟨4, [], 16, 25⟩],
  trim := [],
  res := [] }
theorem longn.eq {R : Type} (n : Int) (k : GRes → Option R) : arun Tryz.prog longn.G longn.an 12 Tryz.f109 (longn.st n).1 (longn.st n).2 k =
  k (longn.out (8, [(icv .u8 (ishr .i64 n (56 : Int))), (icv .u8 (ishr .i64 n (48 : Int))), (icv .u8 (ishr .i64 n (40 : Int))), (icv .u8 (ishr .i64 n (32 : Int))), (icv .u8 (ishr .i64 n (24 : Int))), (icv .u8 (ishr .i64 n (16 : Int))), (icv .u8 (ishr .i64 n (8 : Int))), (icv .u8 (ishr .i64 n (0 : Int)))])) := by kernel_rfl


theorem be8_eq (n : Int) : [icv .u8 (ishr .i64 n 56), icv .u8 (ishr .i64 n 48), icv .u8 (ishr .i64 n 40), icv .u8 (ishr .i64 n 32), icv .u8 (ishr .i64 n 24), icv .u8 (ishr .i64 n 16), icv .u8 (ishr .i64 n 8), icv .u8 (ishr .i64 n 0)] = be8 n := by
  rw [long_byte n 56 (by omega) (by omega), long_byte n 48 (by omega) (by omega), long_byte n 40 (by omega) (by omega), long_byte n 32 (by omega) (by omega), long_byte n 24 (by omega) (by omega), long_byte n 16 (by omega) (by omega), long_byte n 8 (by omega) (by omega), long_byte n 0 (by omega) (by omega)]
  simp [be8]
theorem longn.ok : ∀ d, longn.Pre d → arun Tryz.prog longn.G longn.an 12 Tryz.f109 (longn.st d).1 (longn.st d).2 some = some (longn.out (longn.add d (longn.F d))) := by
  intro n _
  rw [longn.eq, be8_eq]
  rfl

theorem longn.inj : ∀ d d', longn.st d = longn.st d' → d = d' := fun n n' hEq => by
  have e0 : n = n' := d_inj (t := (.int .i64)) (congrArg (fun s : List AVal × List Ent => (s.1.getD 1 .undef)) hEq)
  rw [e0]
noncomputable def longn.E : Entry := Entry.of [none, some (.int .i64)] longn.st longn.Pre (fun d => longn.add d (longn.F d)) longn.out
noncomputable def longn.call : longn.D → Option longn.X := fun d => longn.E.run (longn.st d).1 (longn.st d).2
theorem longn.run {d : longn.D} (h : longn.Pre d) : longn.call d = some (longn.add d (longn.F d)) := Entry.of_run longn.inj h
theorem longn.does : Does Tryz.prog 109 longn.E := Does.of (by kernel_rfl) (show Sound _ longn.G from Sound.nil _) (by kernel_rfl) (by kernel_rfl) (by kernel_rfl) (LOk.fn 1 (by kernel_rfl) (And.intro (LDo.none (by kernel_rfl)) trivial)) longn.ok

/-! ### corsned/hash.long -/
abbrev longs.D := Nat × Int × (List Int)
def longs.st : longs.D → List AVal × List Ent := fun (bL, n, o0) => ([.sref (.old 0) 0 [] 0 0 bL, .d (.int .i64) n], [.obj 0 false (.vec 5 (.int .u8) o0)])
abbrev longs.Y := Nat × (List Int)
abbrev longs.X := Nat × (List Int)
def longs.out : longs.X → GRes := fun x => ⟨.sref (.old 0) 8 [] 0 0 x.1, [.obj 8 false (.vec 5 (.int .u8) x.2)], []⟩
def longs.add : longs.D → longs.Y → longs.X := fun (bL, n, o0) y => y


def longs.Pre : longs.D → Prop := fun (m, n, l) => m = l.length ∧ l.length ≤ 140737488355320
def longs.F : longs.D → longs.Y := fun (m, n, l) => (l.length + 8, l ++ be8 n)

noncomputable def longs.G : Gam := gnil
noncomputable def longs.an : Ann := {
  objs := [],
  loops := fun r => bif Nat.beq r 2 then { keep := [0, 1, 5], sites := [16], frz := [], data := [], owns := [] } else { keep := [], sites := [], frz := [], data := [], owns := [] },
  outs := fun r b => bif Nat.beq r 2 then (bif b then { keep := [4], sites := [16], frz := [], data := [], owns := [] } else { keep := [0], sites := [16], frz := [], data := [], owns := [] }) else { keep := [], sites := [], frz := [], data := [], owns := [] },
  sums := fun r => none,
  owns := [],
  trim := [],
  res := [] }
theorem longs.eq {R : Type} (bL : Nat) (n : Int) (o0 : (List Int)) (k : GRes → Option R) : arun Tryz.prog longs.G longs.an 12 Tryz.f109 (longs.st (bL, n, o0)).1 (longs.st (bL, n, o0)).2 k =
  sel (decide (bL ≤ (List.length o0))) (
  sel (roomA (bL + 1) 1) (
  sel (decide ((bL + 1) ≤ (List.length ((List.take bL o0) ++ [(icv .u8 (ishr .i64 n (56 : Int)))])))) (
  sel (roomA ((bL + 1) + 1) 1) (
  sel (decide (((bL + 1) + 1) ≤ (List.length ((List.take (bL + 1) ((List.take bL o0) ++ [(icv .u8 (ishr .i64 n (56 : Int)))])) ++ [(icv .u8 (ishr .i64 n (48 : Int)))])))) (
  sel (roomA (((bL + 1) + 1) + 1) 1) (
  sel (decide ((((bL + 1) + 1) + 1) ≤ (List.length ((List.take ((bL + 1) + 1) ((List.take (bL + 1) ((List.take bL o0) ++ [(icv .u8 (ishr .i64 n (56 : Int)))])) ++ [(icv .u8 (ishr .i64 n (48 : Int)))])) ++ [(icv .u8 (ishr .i64 n (40 : Int)))])))) (
  sel (roomA ((((bL + 1) + 1) + 1) + 1) 1) (
  sel (decide (((((bL + 1) + 1) + 1) + 1) ≤ (List.length ((List.take (((bL + 1) + 1) + 1) ((List.take ((bL + 1) + 1) ((List.take (bL + 1) ((List.take bL o0) ++ [(icv .u8 (ishr .i64 n (56 : Int)))])) ++ [(icv .u8 (ishr .i64 n (48 : Int)))])) ++ [(icv .u8 (ishr .i64 n (40 : Int)))])) ++ [(icv .u8 (ishr .i64 n (32 : Int)))])))) (
  sel (roomA (((((bL + 1) + 1) + 1) + 1) + 1) 1) (
  sel (decide ((((((bL + 1) + 1) + 1) + 1) + 1) ≤ (List.length ((List.take ((((bL + 1) + 1) + 1) + 1) ((List.take (((bL + 1) + 1) + 1) ((List.take ((bL + 1) + 1) ((List.take (bL + 1) ((List.take bL o0) ++ [(icv .u8 (ishr .i64 n (56 : Int)))])) ++ [(icv .u8 (ishr .i64 n (48 : Int)))])) ++ [(icv .u8 (ishr .i64 n (40 : Int)))])) ++ [(icv .u8 (ishr .i64 n (32 : Int)))])) ++ [(icv .u8 (ishr .i64 n (24 : Int)))])))) (
  sel (roomA ((((((bL + 1) + 1) + 1) + 1) + 1) + 1) 1) (
  sel (decide (((((((bL + 1) + 1) + 1) + 1) + 1) + 1) ≤ (List.length ((List.take (((((bL + 1) + 1) + 1) + 1) + 1) ((List.take ((((bL + 1) + 1) + 1) + 1) ((List.take (((bL + 1) + 1) + 1) ((List.take ((bL + 1) + 1) ((List.take (bL + 1) ((List.take bL o0) ++ [(icv .u8 (ishr .i64 n (56 : Int)))])) ++ [(icv .u8 (ishr .i64 n (48 : Int)))])) ++ [(icv .u8 (ishr .i64 n (40 : Int)))])) ++ [(icv .u8 (ishr .i64 n (32 : Int)))])) ++ [(icv .u8 (ishr .i64 n (24 : Int)))])) ++ [(icv .u8 (ishr .i64 n (16 : Int)))])))) (
  sel (roomA (((((((bL + 1) + 1) + 1) + 1) + 1) + 1) + 1) 1) (
  sel (decide ((((((((bL + 1) + 1) + 1) + 1) + 1) + 1) + 1) ≤ (List.length ((List.take ((((((bL + 1) + 1) + 1) + 1) + 1) + 1) ((List.take (((((bL + 1) + 1) + 1) + 1) + 1) ((List.take ((((bL + 1) + 1) + 1) + 1) ((List.take (((bL + 1) + 1) + 1) ((List.take ((bL + 1) + 1) ((List.take (bL + 1) ((List.take bL o0) ++ [(icv .u8 (ishr .i64 n (56 : Int)))])) ++ [(icv .u8 (ishr .i64 n (48 : Int)))])) ++ [(icv .u8 (ishr .i64 n (40 : Int)))])) ++ [(icv .u8 (ishr .i64 n (32 : Int)))])) ++ [(icv .u8 (ishr .i64 n (24 : Int)))])) ++ [(icv .u8 (ishr .i64 n (16 : Int)))])) ++ [(icv .u8 (ishr .i64 n (8 : Int)))])))) (
  sel (roomA ((((((((bL + 1) + 1) + 1) + 1) + 1) + 1) + 1) + 1) 1) (
  k (longs.out (((((((((bL + 1) + 1) + 1) + 1) + 1) + 1) + 1) + 1), ((List.take (((((((bL + 1) + 1) + 1) + 1) + 1) + 1) + 1) ((List.take ((((((bL + 1) + 1) + 1) + 1) + 1) + 1) ((List.take (((((bL + 1) + 1) + 1) + 1) + 1) ((List.take ((((bL + 1) + 1) + 1) + 1) ((List.take (((bL + 1) + 1) + 1) ((List.take ((bL + 1) + 1) ((List.take (bL + 1) ((List.take bL o0) ++ [(icv .u8 (ishr .i64 n (56 : Int)))])) ++ [(icv .u8 (ishr .i64 n (48 : Int)))])) ++ [(icv .u8 (ishr .i64 n (40 : Int)))])) ++ [(icv .u8 (ishr .i64 n (32 : Int)))])) ++ [(icv .u8 (ishr .i64 n (24 : Int)))])) ++ [(icv .u8 (ishr .i64 n (16 : Int)))])) ++ [(icv .u8 (ishr .i64 n (8 : Int)))])) ++ [(icv .u8 (ishr .i64 n (0 : Int)))])))) none) none) none) none) none) none) none) none) none) none) none) none) none) none) none) none := by kernel_rfl


theorem longs.ok : ∀ d, longs.Pre d → arun Tryz.prog longs.G longs.an 12 Tryz.f109 (longs.st d).1 (longs.st d).2 some = some (longs.out (longs.add d (longs.F d))) := by
  rintro ⟨m, n, l⟩ ⟨rfl, hl⟩
  have hl : l.length ≤ 140737488355320 := hl
  rw [longs.eq]
  simp only [Nat.le_refl, decide_true, sel_true, List.take_of_length_le, List.length_append, List.length_cons, List.length_nil, Nat.zero_add]
  rw [room1 (by omega), room1 (by omega), room1 (by omega), room1 (by omega), room1 (by omega), room1 (by omega), room1 (by omega), room1 (by omega)]
  simp only [sel_true, longs.add, longs.F, ← be8_eq, List.append_assoc, List.cons_append, List.nil_append]

theorem longs.inj : ∀ d d', longs.st d = longs.st d' → d = d' := fun (bL, n, o0) (bL', n', o0') hEq => by
  have e0 : bL = bL' := congrArg (fun s : List AVal × List Ent => srefLen (s.1.getD 0 .undef)) hEq
  have e1 : n = n' := d_inj (t := (.int .i64)) (congrArg (fun s : List AVal × List Ent => (s.1.getD 1 .undef)) hEq)
  have e2 : o0 = o0' := vec_inj (e := 5) (t := (.int .u8)) (congrArg (fun s : List AVal × List Ent => (entD (s.2.getD 0 .dead))) hEq)
  rw [e0, e1, e2]
noncomputable def longs.E : Entry := Entry.of [none, some (.int .i64)] longs.st longs.Pre (fun d => longs.add d (longs.F d)) longs.out
noncomputable def longs.call : longs.D → Option longs.X := fun d => longs.E.run (longs.st d).1 (longs.st d).2
theorem longs.run {d : longs.D} (h : longs.Pre d) : longs.call d = some (longs.add d (longs.F d)) := Entry.of_run longs.inj h
theorem longs.does : Does Tryz.prog 109 longs.E := Does.of (by kernel_rfl) (show Sound _ longs.G from Sound.nil _) (by kernel_rfl) (by kernel_rfl) (by kernel_rfl) (LOk.fn 1 (by kernel_rfl) (And.intro (LDo.none (by kernel_rfl)) trivial)) longs.ok

end Go.Ab
namespace Go.Ab
open Go.Proofs
set_option maxRecDepth 100000
set_option linter.unusedVariables false
set_option linter.unusedSimpArgs false

/-! ### corsned/hash.Sum -/
abbrev hsum.L0.D := (List Int) × Nat × (List Int) × (List Int)
def hsum.L0.st : hsum.L0.D → AS := fun (b_2, endL, n2, n14) => ⟨([.d (.slice (.int .u8)) b_2, .undef, .ptr (.new 2 0) 0 [] 0, .sref (.new 14 0) 0 [] 0 0 endL] ++ undN 61 []), [], ([[], [], [.obj 0 false (.d (.arr 32 (.int .u8)) n2)]] ++ nilN 11 ([[.obj 0 false (.vec 5 (.int .u8) n14)]] ++ nilN 50 []))⟩
abbrev hsum.L0.Y0 := Nat × (List Int)  -- endL, n14
abbrev hsum.L0.X0 := ((List Int) × (List Int)) × (Nat × (List Int))
def hsum.L0.ex0 : hsum.L0.X0 → Exit × AS := fun x => (.exit 0, ⟨([.d (.slice (.int .u8)) x.1.1, .undef, .ptr (.new 2 0) 0 [] 0, .sref (.new 14 0) 0 [] 0 0 x.2.1] ++ undN 61 []), [], ([[], [], [.obj 0 false (.d (.arr 32 (.int .u8)) x.1.2)]] ++ nilN 11 ([[.obj 0 false (.vec 5 (.int .u8) x.2.2)]] ++ nilN 50 []))⟩)
abbrev hsum.L0.X := hsum.L0.X0
abbrev hsum.L0.Y := hsum.L0.Y0
def hsum.L0.out : hsum.L0.X → Out (Exit × AS) := fun x => .ok (hsum.L0.ex0 x)
def hsum.L0.add : hsum.L0.D → hsum.L0.Y → hsum.L0.X := fun (b_2, endL, n2, n14) y => ((b_2, n2), y)
abbrev hsum.L1.D := (List Int) × Nat × (List Int) × (List Int) × (List Int)
def hsum.L1.st : hsum.L1.D → AS := fun (b_3, endL_2, n2_2, n4, n14_2) => ⟨([.d (.slice (.int .u8)) b_3, .undef, .ptr (.new 2 0) 0 [] 0, .sref (.new 14 0) 8 [] 0 0 endL_2, .ptr (.new 4 0) 0 [] 0] ++ undN 60 []), [], ([[], [], [.obj 0 false (.d (.arr 32 (.int .u8)) n2_2)], [], [.obj 0 false (.d (.arr 8 (.int .u32)) n4)]] ++ nilN 9 ([[.obj 8 false (.vec 5 (.int .u8) n14_2)]] ++ nilN 50 []))⟩
abbrev hsum.L1.Y0 := (List Int)  -- n4
abbrev hsum.L1.X0 := (Nat × (List Int) × (List Int)) × ((List Int))
def hsum.L1.ex0 : hsum.L1.X0 → Exit × AS := fun x => (.exit 2, ⟨([.undef, .undef, .ptr (.new 2 0) 0 [] 0, .sref (.new 14 0) 8 [] 0 0 x.1.1, .ptr (.new 4 0) 0 [] 0] ++ undN 60 []), [], ([[], [], [.obj 0 false (.d (.arr 32 (.int .u8)) x.1.2.1)], [], [.obj 0 false (.d (.arr 8 (.int .u32)) x.2)]] ++ nilN 9 ([[.obj 8 false (.vec 5 (.int .u8) x.1.2.2)]] ++ nilN 50 []))⟩)
abbrev hsum.L1.X := hsum.L1.X0
abbrev hsum.L1.Y := hsum.L1.Y0
def hsum.L1.out : hsum.L1.X → Out (Exit × AS) := fun x => .ok (hsum.L1.ex0 x)
def hsum.L1.add : hsum.L1.D → hsum.L1.Y → hsum.L1.X := fun (b_3, endL_2, n2_2, n4, n14_2) y => ((endL_2, n2_2, n14_2), y)
abbrev hsum.L2.D := (List Int) × (List Int) × (List Int)
def hsum.L2.st : hsum.L2.D → AS := fun (endv, n2_3, n4_2) => ⟨([.undef, .undef, .ptr (.new 2 0) 0 [] 0, .d (.slice (.int .u8)) endv, .ptr (.new 4 0) 0 [] 0] ++ undN 60 []), [], ([[], [], [.obj 0 false (.d (.arr 32 (.int .u8)) n2_3)], [], [.obj 0 false (.d (.arr 8 (.int .u32)) n4_2)]] ++ nilN 60 [])⟩
abbrev hsum.L2.Y0 := (List Int)  -- n4
abbrev hsum.L2.X0 := ((List Int)) × ((List Int))
def hsum.L2.ex0 : hsum.L2.X0 → Exit × AS := fun x => (.exit 4, ⟨([.undef, .undef, .ptr (.new 2 0) 0 [] 0, .undef, .ptr (.new 4 0) 0 [] 0] ++ undN 60 []), [], ([[], [], [.obj 0 false (.d (.arr 32 (.int .u8)) x.1)], [], [.obj 0 false (.d (.arr 8 (.int .u32)) x.2)]] ++ nilN 60 [])⟩)
abbrev hsum.L2.X := hsum.L2.X0
abbrev hsum.L2.Y := hsum.L2.Y0
def hsum.L2.out : hsum.L2.X → Out (Exit × AS) := fun x => .ok (hsum.L2.ex0 x)
def hsum.L2.add : hsum.L2.D → hsum.L2.Y → hsum.L2.X := fun (endv, n2_3, n4_2) y => (n2_3, y)
abbrev hsum.L3.D := Int × (List Int) × (List Int)
def hsum.L3.st : hsum.L3.D → AS := fun (t48, n2_4, n4_3) => ⟨([.undef, .undef, .ptr (.new 2 0) 0 [] 0, .undef, .ptr (.new 4 0) 0 [] 0] ++ undN 43 ([.d (.int .i64) t48] ++ undN 16 [])), [], ([[], [], [.obj 0 false (.d (.arr 32 (.int .u8)) n2_4)], [], [.obj 0 false (.d (.arr 8 (.int .u32)) n4_3)]] ++ nilN 60 [])⟩
abbrev hsum.L3.Y0 := (List Int)  -- n2
abbrev hsum.L3.X0 := (List Int)
def hsum.L3.ex0 : hsum.L3.X0 → Exit × AS := fun x => (.exit 6, ⟨([.undef, .undef, .ptr (.new 2 0) 0 [] 0] ++ undN 62 []), [], ([[], [], [.obj 0 false (.d (.arr 32 (.int .u8)) x)]] ++ nilN 62 [])⟩)
abbrev hsum.L3.X := hsum.L3.X0
abbrev hsum.L3.Y := hsum.L3.Y0
def hsum.L3.out : hsum.L3.X → Out (Exit × AS) := fun x => .ok (hsum.L3.ex0 x)
def hsum.L3.add : hsum.L3.D → hsum.L3.Y → hsum.L3.X := fun (t48, n2_4, n4_3) y => y
abbrev hsum.D := (List Int)
def hsum.st : hsum.D → List AVal × List Ent := fun b => ([.d (.slice (.int .u8)) b], [])
abbrev hsum.Y := (List Int)
abbrev hsum.X := (List Int)
def hsum.out : hsum.X → GRes := fun x => ⟨.d (.arr 32 (.int .u8)) x, [], []⟩
def hsum.add : hsum.D → hsum.Y → hsum.X := fun b y => y


def zc (n : Nat) : Nat := (120 - n % 64) % 64
def hsum.L0.Pre : hsum.L0.D → Prop := fun (b, m, n2, l) => m = l.length ∧ l.length + zc l.length ≤ 140737488355328
def hsum.L0.F : hsum.L0.D → hsum.L0.Y := fun (b, m, n2, l) => (l.length + zc l.length, l ++ List.replicate (zc l.length) 0)
def hsum.L1.Pre : hsum.L1.D → Prop := fun (b, m, n2, h, l) => ∃ s : St, h = s.l
def hsum.L1.F : hsum.L1.D → hsum.L1.Y := fun (b, m, n2, h, l) => (blocks (toSt h) b).l
def hsum.L2.Pre : hsum.L2.D → Prop := fun (b, n2, h) => b.length % 64 = 0 ∧ ∃ s : St, h = s.l
def hsum.L2.F : hsum.L2.D → hsum.L2.Y := fun (b, n2, h) => (blocks (toSt h) b).l
def bytAt (h : List Int) (i : Nat) (_ : Int) : Int := icv .u8 (ishr .u32 (nth (.int .u32) h (i / 4)) ((24 - 8 * (i % 4) : Nat) : Int))
def hsum.L3.Pre : hsum.L3.D → Prop := fun (t, n2, h) => n2.length = 32 ∧ h.length = 8 ∧ ∃ k : Nat, k ≤ 32 ∧ t = k
def hsum.L3.F : hsum.L3.D → hsum.L3.Y := fun (t, n2, h) => from_ (bytAt h) t.toNat n2
def hsum.Pre : hsum.D → Prop := fun b => b.length ≤ 140737488350000
def hsum.F : hsum.D → hsum.Y := fun b => sha b

noncomputable def hsum.G : Gam := gcons 108 anyArgs clone8.E (gcons 109 srefFirst longs.E (gcons 110 anyArgs first.E (gcons 111 anyArgs mix.E (gnil))))
noncomputable def hsum.L0.E : LEntry := LEntry.of hsum.L0.st hsum.L0.Pre (fun d => hsum.L0.add d (hsum.L0.F d)) hsum.L0.out
noncomputable def hsum.L0.call : hsum.L0.D → Option hsum.L0.X := fun d => hsum.L0.E.run (hsum.L0.st d)
noncomputable def hsum.L1.E : LEntry := LEntry.of hsum.L1.st hsum.L1.Pre (fun d => hsum.L1.add d (hsum.L1.F d)) hsum.L1.out
noncomputable def hsum.L1.call : hsum.L1.D → Option hsum.L1.X := fun d => hsum.L1.E.run (hsum.L1.st d)
noncomputable def hsum.L2.E : LEntry := LEntry.of hsum.L2.st hsum.L2.Pre (fun d => hsum.L2.add d (hsum.L2.F d)) hsum.L2.out
noncomputable def hsum.L2.call : hsum.L2.D → Option hsum.L2.X := fun d => hsum.L2.E.run (hsum.L2.st d)
noncomputable def hsum.L3.E : LEntry := LEntry.of hsum.L3.st hsum.L3.Pre (fun d => hsum.L3.add d (hsum.L3.F d)) hsum.L3.out
noncomputable def hsum.L3.call : hsum.L3.D → Option hsum.L3.X := fun d => hsum.L3.E.run (hsum.L3.st d)
noncomputable def hsum.an : Ann := {
  objs := [],
  loops := fun r => bif Nat.beq r 2 then { keep := [0, 2, 3], sites := [2, 14], frz := [], data := [], owns := [⟨3, [], 14, 25⟩] } else bif Nat.beq r 6 then { keep := [0, 2, 3, 4], sites := [2, 4, 14], frz := [], data := [], owns := [] } else bif Nat.beq r 9 then { keep := [2, 3, 4], sites := [2, 4], frz := [], data := [(3, (.slice (.int .u8)))], owns := [] } else bif Nat.beq r 13 then { keep := [2, 4, 48], sites := [2, 4], frz := [], data := [], owns := [] } else { keep := [], sites := [], frz := [], data := [], owns := [] },
  outs := fun r b => bif Nat.beq r 2 then (bif b then { keep := [2], sites := [], frz := [], data := [], owns := [] } else { keep := [0, 2, 3], sites := [2, 14], frz := [], data := [], owns := [] }) else bif Nat.beq r 6 then (bif b then { keep := [2], sites := [], frz := [], data := [], owns := [] } else { keep := [2, 3, 4], sites := [2, 4, 14], frz := [], data := [], owns := [] }) else bif Nat.beq r 9 then (bif b then { keep := [2], sites := [], frz := [], data := [], owns := [] } else { keep := [2, 4], sites := [2, 4], frz := [], data := [], owns := [] }) else bif Nat.beq r 13 then (bif b then { keep := [2], sites := [], frz := [], data := [], owns := [] } else { keep := [2], sites := [2], frz := [], data := [], owns := [] }) else { keep := [], sites := [], frz := [], data := [], owns := [] },
  sums := fun r => bif Nat.beq r 2 then some hsum.L0.E else bif Nat.beq r 6 then some hsum.L1.E else bif Nat.beq r 9 then some hsum.L2.E else bif Nat.beq r 13 then some hsum.L3.E else none,
  owns := [],
  trim := [],
  res := [] }
theorem hsum.L0.inj : ∀ d d', hsum.L0.st d = hsum.L0.st d' → d = d' := fun (b_2, endL, n2, n14) (b_2', endL', n2', n14') hEq => by
  have e0 : b_2 = b_2' := d_inj (t := (.slice (.int .u8))) (congrArg (fun s : AS => (s.slot 0)) hEq)
  have e1 : endL = endL' := congrArg (fun s : AS => srefLen (s.slot 3)) hEq
  have e2 : n2 = n2' := d_inj (t := (.arr 32 (.int .u8))) (congrArg (fun s : AS => (entC (s.ent (.new 2 0)))) hEq)
  have e3 : n14 = n14' := vec_inj (e := 5) (t := (.int .u8)) (congrArg (fun s : AS => (entC (s.ent (.new 14 0)))) hEq)
  rw [e0, e1, e2, e3]
theorem hsum.L0.run {d : hsum.L0.D} (h : hsum.L0.Pre d) : hsum.L0.call d = some (hsum.L0.add d (hsum.L0.F d)) := LEntry.of_run hsum.L0.inj h
theorem hsum.L0.byRounds (μ : hsum.L0.D → Nat) (h : ∀ d, hsum.L0.Pre d → (∃ d', hsum.L0.Pre d' ∧ μ d' < μ d ∧ hsum.L0.add d' (hsum.L0.F d') = hsum.L0.add d (hsum.L0.F d) ∧ ∀ {R : Type} (kn : AS → Option R) (kx : Exit → AS → Option R), lround Tryz.prog hsum.G hsum.an 0 Tryz.f51 0 (hsum.L0.st d) kn kx = kn (hsum.L0.st d')) ∨ (∀ {R : Type} (kn : AS → Option R) (kx : Exit → AS → Option R), lround Tryz.prog hsum.G hsum.an 0 Tryz.f51 0 (hsum.L0.st d) kn kx = kx (hsum.L0.ex0 (hsum.L0.add d (hsum.L0.F d))).1 (hsum.L0.ex0 (hsum.L0.add d (hsum.L0.F d))).2)) : ∀ d, hsum.L0.Pre d → ∃ n, lrun Tryz.prog hsum.G hsum.an 0 Tryz.f51 0 n (hsum.L0.st d) (fun e s => some (e, s)) = (hsum.L0.out (hsum.L0.add d (hsum.L0.F d))).eval := lrun_one (F := fun d => hsum.L0.add d (hsum.L0.F d)) μ h
theorem hsum.L0.step {R : Type} (b_2 : (List Int)) (endL : Nat) (n2 : (List Int)) (n14 : (List Int)) (kn : AS → Option R) (kx : Exit → AS → Option R) : lround Tryz.prog hsum.G hsum.an 0 Tryz.f51 0 (hsum.L0.st (b_2, endL, n2, n14)) kn kx =
  sel ((ine (irem ((endL : Nat) : Int) (64 : Int)) (56 : Int))) (
   sel (decide (endL ≤ (List.length n14))) (
   sel (roomA (endL + 1) 1) (
   kn (hsum.L0.st (b_2, (endL + 1), n2, ((List.take endL n14) ++ [(0 : Int)])))) none) none) (
   kx (hsum.L0.ex0 ((b_2, n2), (endL, n14))).1 (hsum.L0.ex0 ((b_2, n2), (endL, n14))).2) := by kernel_rfl
theorem hsum.L1.inj : ∀ d d', hsum.L1.st d = hsum.L1.st d' → d = d' := fun (b_3, endL_2, n2_2, n4, n14_2) (b_3', endL_2', n2_2', n4', n14_2') hEq => by
  have e0 : b_3 = b_3' := d_inj (t := (.slice (.int .u8))) (congrArg (fun s : AS => (s.slot 0)) hEq)
  have e1 : endL_2 = endL_2' := congrArg (fun s : AS => srefLen (s.slot 3)) hEq
  have e2 : n2_2 = n2_2' := d_inj (t := (.arr 32 (.int .u8))) (congrArg (fun s : AS => (entC (s.ent (.new 2 0)))) hEq)
  have e3 : n4 = n4' := d_inj (t := (.arr 8 (.int .u32))) (congrArg (fun s : AS => (entC (s.ent (.new 4 0)))) hEq)
  have e4 : n14_2 = n14_2' := vec_inj (e := 5) (t := (.int .u8)) (congrArg (fun s : AS => (entC (s.ent (.new 14 0)))) hEq)
  rw [e0, e1, e2, e3, e4]
theorem hsum.L1.run {d : hsum.L1.D} (h : hsum.L1.Pre d) : hsum.L1.call d = some (hsum.L1.add d (hsum.L1.F d)) := LEntry.of_run hsum.L1.inj h
theorem hsum.L1.byRounds (μ : hsum.L1.D → Nat) (h : ∀ d, hsum.L1.Pre d → (∃ d', hsum.L1.Pre d' ∧ μ d' < μ d ∧ hsum.L1.add d' (hsum.L1.F d') = hsum.L1.add d (hsum.L1.F d) ∧ ∀ {R : Type} (kn : AS → Option R) (kx : Exit → AS → Option R), lround Tryz.prog hsum.G hsum.an 0 Tryz.f51 1 (hsum.L1.st d) kn kx = kn (hsum.L1.st d')) ∨ (∀ {R : Type} (kn : AS → Option R) (kx : Exit → AS → Option R), lround Tryz.prog hsum.G hsum.an 0 Tryz.f51 1 (hsum.L1.st d) kn kx = kx (hsum.L1.ex0 (hsum.L1.add d (hsum.L1.F d))).1 (hsum.L1.ex0 (hsum.L1.add d (hsum.L1.F d))).2)) : ∀ d, hsum.L1.Pre d → ∃ n, lrun Tryz.prog hsum.G hsum.an 0 Tryz.f51 1 n (hsum.L1.st d) (fun e s => some (e, s)) = (hsum.L1.out (hsum.L1.add d (hsum.L1.F d))).eval := lrun_one (F := fun d => hsum.L1.add d (hsum.L1.F d)) μ h
theorem hsum.L1.step {R : Type} (b_3 : (List Int)) (endL_2 : Nat) (n2_2 : (List Int)) (n4 : (List Int)) (n14_2 : (List Int)) (kn : AS → Option R) (kx : Exit → AS → Option R) : lround Tryz.prog hsum.G hsum.an 0 Tryz.f51 1 (hsum.L1.st (b_3, endL_2, n2_2, n4, n14_2)) kn kx =
  sel ((ige (((List.length b_3) : Nat) : Int) (64 : Int))) (
   sel (inc (64 : Int) (((List.length b_3) : Nat) : Int)) (
   obind (mix.call (n4, (cut b_3 0 64))) fun x1 =>
   sel (inc (64 : Int) (((List.length b_3) : Nat) : Int)) (
   kn (hsum.L1.st ((cut b_3 64 ((List.length b_3) - 64)), endL_2, n2_2, x1, n14_2))) none) none) (
   kx (hsum.L1.ex0 ((endL_2, n2_2, n14_2), n4)).1 (hsum.L1.ex0 ((endL_2, n2_2, n14_2), n4)).2) := by kernel_rfl
theorem hsum.L2.inj : ∀ d d', hsum.L2.st d = hsum.L2.st d' → d = d' := fun (endv, n2_3, n4_2) (endv', n2_3', n4_2') hEq => by
  have e0 : endv = endv' := d_inj (t := (.slice (.int .u8))) (congrArg (fun s : AS => (s.slot 3)) hEq)
  have e1 : n2_3 = n2_3' := d_inj (t := (.arr 32 (.int .u8))) (congrArg (fun s : AS => (entC (s.ent (.new 2 0)))) hEq)
  have e2 : n4_2 = n4_2' := d_inj (t := (.arr 8 (.int .u32))) (congrArg (fun s : AS => (entC (s.ent (.new 4 0)))) hEq)
  rw [e0, e1, e2]
theorem hsum.L2.run {d : hsum.L2.D} (h : hsum.L2.Pre d) : hsum.L2.call d = some (hsum.L2.add d (hsum.L2.F d)) := LEntry.of_run hsum.L2.inj h
theorem hsum.L2.byRounds (μ : hsum.L2.D → Nat) (h : ∀ d, hsum.L2.Pre d → (∃ d', hsum.L2.Pre d' ∧ μ d' < μ d ∧ hsum.L2.add d' (hsum.L2.F d') = hsum.L2.add d (hsum.L2.F d) ∧ ∀ {R : Type} (kn : AS → Option R) (kx : Exit → AS → Option R), lround Tryz.prog hsum.G hsum.an 0 Tryz.f51 2 (hsum.L2.st d) kn kx = kn (hsum.L2.st d')) ∨ (∀ {R : Type} (kn : AS → Option R) (kx : Exit → AS → Option R), lround Tryz.prog hsum.G hsum.an 0 Tryz.f51 2 (hsum.L2.st d) kn kx = kx (hsum.L2.ex0 (hsum.L2.add d (hsum.L2.F d))).1 (hsum.L2.ex0 (hsum.L2.add d (hsum.L2.F d))).2)) : ∀ d, hsum.L2.Pre d → ∃ n, lrun Tryz.prog hsum.G hsum.an 0 Tryz.f51 2 n (hsum.L2.st d) (fun e s => some (e, s)) = (hsum.L2.out (hsum.L2.add d (hsum.L2.F d))).eval := lrun_one (F := fun d => hsum.L2.add d (hsum.L2.F d)) μ h
theorem hsum.L2.step {R : Type} (endv : (List Int)) (n2_3 : (List Int)) (n4_2 : (List Int)) (kn : AS → Option R) (kx : Exit → AS → Option R) : lround Tryz.prog hsum.G hsum.an 0 Tryz.f51 2 (hsum.L2.st (endv, n2_3, n4_2)) kn kx =
  sel ((igt (((List.length endv) : Nat) : Int) (0 : Int))) (
   sel (inc (64 : Int) (((List.length endv) : Nat) : Int)) (
   obind (mix.call (n4_2, (cut endv 0 64))) fun x1 =>
   sel (inc (64 : Int) (((List.length endv) : Nat) : Int)) (
   kn (hsum.L2.st ((cut endv 64 ((List.length endv) - 64)), n2_3, x1))) none) none) (
   kx (hsum.L2.ex0 (n2_3, n4_2)).1 (hsum.L2.ex0 (n2_3, n4_2)).2) := by kernel_rfl
theorem hsum.L3.inj : ∀ d d', hsum.L3.st d = hsum.L3.st d' → d = d' := fun (t48, n2_4, n4_3) (t48', n2_4', n4_3') hEq => by
  have e0 : t48 = t48' := d_inj (t := (.int .i64)) (congrArg (fun s : AS => (s.slot 48)) hEq)
  have e1 : n2_4 = n2_4' := d_inj (t := (.arr 32 (.int .u8))) (congrArg (fun s : AS => (entC (s.ent (.new 2 0)))) hEq)
  have e2 : n4_3 = n4_3' := d_inj (t := (.arr 8 (.int .u32))) (congrArg (fun s : AS => (entC (s.ent (.new 4 0)))) hEq)
  rw [e0, e1, e2]
theorem hsum.L3.run {d : hsum.L3.D} (h : hsum.L3.Pre d) : hsum.L3.call d = some (hsum.L3.add d (hsum.L3.F d)) := LEntry.of_run hsum.L3.inj h
theorem hsum.L3.byRounds (μ : hsum.L3.D → Nat) (h : ∀ d, hsum.L3.Pre d → (∃ d', hsum.L3.Pre d' ∧ μ d' < μ d ∧ hsum.L3.add d' (hsum.L3.F d') = hsum.L3.add d (hsum.L3.F d) ∧ ∀ {R : Type} (kn : AS → Option R) (kx : Exit → AS → Option R), lround Tryz.prog hsum.G hsum.an 0 Tryz.f51 3 (hsum.L3.st d) kn kx = kn (hsum.L3.st d')) ∨ (∀ {R : Type} (kn : AS → Option R) (kx : Exit → AS → Option R), lround Tryz.prog hsum.G hsum.an 0 Tryz.f51 3 (hsum.L3.st d) kn kx = kx (hsum.L3.ex0 (hsum.L3.add d (hsum.L3.F d))).1 (hsum.L3.ex0 (hsum.L3.add d (hsum.L3.F d))).2)) : ∀ d, hsum.L3.Pre d → ∃ n, lrun Tryz.prog hsum.G hsum.an 0 Tryz.f51 3 n (hsum.L3.st d) (fun e s => some (e, s)) = (hsum.L3.out (hsum.L3.add d (hsum.L3.F d))).eval := lrun_one (F := fun d => hsum.L3.add d (hsum.L3.F d)) μ h
theorem hsum.L3.step {R : Type} (t48 : Int) (n2_4 : (List Int)) (n4_3 : (List Int)) (kn : AS → Option R) (kx : Exit → AS → Option R) : lround Tryz.prog hsum.G hsum.an 0 Tryz.f51 3 (hsum.L3.st (t48, n2_4, n4_3)) kn kx =
  sel ((ilt t48 (32 : Int))) (
   sel (inb (iquo .i64 t48 (4 : Int)) (8 : Int)) (
   sel (decide ((Int.toNat (iquo .i64 t48 (4 : Int))) < (List.length n4_3))) (
   sel (decide ((((Int.toNat (iquo .i64 t48 (4 : Int))) * 1) + 0) = (0 + ((Int.toNat (iquo .i64 t48 (4 : Int))) * 1)))) (
   sel (nonneg (isub .i64 (24 : Int) (imul .i64 (8 : Int) (irem t48 (4 : Int))))) (
   sel (inb t48 (32 : Int)) (
   sel (decide ((Int.toNat t48) < (List.length n2_4))) (
   sel (decide ((((Int.toNat t48) * 1) + 0) = (0 + ((Int.toNat t48) * 1)))) (
   sel (decide ((Int.toNat t48) < (List.length n2_4))) (
   kn (hsum.L3.st ((iadd .i64 t48 (1 : Int)), (List.set n2_4 (Int.toNat t48) (icv .u8 (ishr .u32 (nth (.int .u32) n4_3 (Int.toNat (iquo .i64 t48 (4 : Int)))) (isub .i64 (24 : Int) (imul .i64 (8 : Int) (irem t48 (4 : Int))))))), n4_3))) none) none) none) none) none) none) none) none) (
   kx (hsum.L3.ex0 n2_4).1 (hsum.L3.ex0 n2_4).2) := by kernel_rfl
theorem hsum.eq {R : Type} (b : (List Int)) (k : GRes → Option R) : arun Tryz.prog hsum.G hsum.an 0 Tryz.f51 (hsum.st b).1 (hsum.st b).2 k =
  sel (inc (isub .i64 (((List.length b) : Nat) : Int) (irem (((List.length b) : Nat) : Int) (64 : Int))) (((List.length b) : Nat) : Int)) (
  obind (clone8.call (cut b (Int.toNat (isub .i64 (((List.length b) : Nat) : Int) (irem (((List.length b) : Nat) : Int) (64 : Int)))) ((List.length b) - (Int.toNat (isub .i64 (((List.length b) : Nat) : Int) (irem (((List.length b) : Nat) : Int) (64 : Int))))))) fun x1 =>
  sel (decide (x1.1 ≤ (List.length x1.2))) (
  sel (roomA (x1.1 + 1) 1) (
  obind (hsum.L0.call (b, (x1.1 + 1), (List.replicate 32 (0 : Int)), ((List.take x1.1 x1.2) ++ [(128 : Int)]))) fun x2 =>
  obind (longs.call (x2.2.1, (imul .i64 (8 : Int) (((List.length x2.1.1) : Nat) : Int)), x2.2.2)) fun x3 =>
  obind (first.call ()) fun x4 =>
  obind (hsum.L1.call (x2.1.1, x3.1, x2.1.2, x4, x3.2)) fun x6 =>
  sel (decide (0 = 0 ∧ (0 + x6.1.1) ≤ (List.length x6.1.2.2))) (
  obind (hsum.L2.call ((cut x6.1.2.2 0 x6.1.1), x6.1.2.1, x6.2)) fun x9 =>
  obind (hsum.L3.call ((0 : Int), x9.1, x9.2)) fun x10 =>
  k (hsum.out x10)) none) none) none) none := by kernel_rfl


theorem hsum.L0.ok : ∀ d, hsum.L0.Pre d → ∃ n, lrun Tryz.prog hsum.G hsum.an 0 Tryz.f51 0 n (hsum.L0.st d) (fun e s => some (e, s)) = (hsum.L0.out (hsum.L0.add d (hsum.L0.F d))).eval := by
  refine hsum.L0.byRounds (fun (b, m, n2, l) => zc l.length) ?_
  rintro ⟨b, m, n2, l⟩ ⟨rfl, hl⟩
  have hl : l.length + zc l.length ≤ 140737488355328 := hl
  have hr : irem ((l.length : Nat) : Int) 64 = ((l.length % 64 : Nat) : Int) := by
    unfold irem
    rw [Int.tmod_eq_emod_of_nonneg (by omega)]
    omega
  by_cases h : l.length % 64 = 56
  · right
    intro R kn kx
    have hz : zc l.length = 0 := by unfold zc; omega
    rw [hsum.L0.step, hr, ine_false (by omega)]
    simp only [sel_false, hsum.L0.add, hsum.L0.F, hz, Nat.add_zero, List.replicate_zero, List.append_nil]
  · left
    have hz : zc l.length = zc (l.length + 1) + 1 := by unfold zc; omega
    refine ⟨(b, l.length + 1, n2, l ++ [0]), ⟨by simp, by simp only [List.length_append, List.length_cons, List.length_nil, Nat.zero_add]; omega⟩, by simp only [List.length_append, List.length_cons, List.length_nil, Nat.zero_add]; omega, ?_, fun kn kx => ?_⟩
    · simp only [hsum.L0.add, hsum.L0.F, List.length_append, List.length_cons, List.length_nil, Nat.zero_add, hz, List.append_assoc, List.cons_append, List.nil_append, List.replicate_succ]
      rw [show l.length + 1 + zc (l.length + 1) = l.length + (zc (l.length + 1) + 1) by omega]
    · rw [hsum.L0.step, hr, ine_true (by omega), room1 (by omega)]
      simp only [sel_true, Nat.le_refl, decide_true, List.take_length]
theorem hsum.L1.ok : ∀ d, hsum.L1.Pre d → ∃ n, lrun Tryz.prog hsum.G hsum.an 0 Tryz.f51 1 n (hsum.L1.st d) (fun e s => some (e, s)) = (hsum.L1.out (hsum.L1.add d (hsum.L1.F d))).eval := by
  refine hsum.L1.byRounds (fun (b, m, n2, h, l) => b.length) ?_
  rintro ⟨b, m, n2, h, l⟩ ⟨s, rfl⟩
  by_cases hb : 64 ≤ b.length
  · left
    have e1 : cut b 64 (b.length - 64) = b.drop 64 := by unfold cut; rw [List.take_of_length_le (by simp)]
    have e2 : cut b 0 64 = b.take 64 := rfl
    have hp : mix.Pre (s.l, b.take 64) := ⟨⟨s, rfl⟩, by simp; omega⟩
    refine ⟨(b.drop 64, m, n2, (mixS s (b.take 64)).l, l), ⟨_, rfl⟩, by simp; omega, ?_, fun kn kx => ?_⟩
    · simp only [hsum.L1.add, hsum.L1.F, toSt_l]
      rw [blocks_step s b hb]
    · rw [hsum.L1.step, ige_true (by omega), inc_true (by omega) (by omega), e1, e2]
      simp only [sel_true, mix.run hp, obind_some, mix.add, mix.F, toSt_l]
  · right
    intro R kn kx
    rw [hsum.L1.step, ige_false (by omega)]
    simp only [sel_false, hsum.L1.add, hsum.L1.F, toSt_l]
    rw [blocks_end s b (by omega)]
theorem hsum.L2.ok : ∀ d, hsum.L2.Pre d → ∃ n, lrun Tryz.prog hsum.G hsum.an 0 Tryz.f51 2 n (hsum.L2.st d) (fun e s => some (e, s)) = (hsum.L2.out (hsum.L2.add d (hsum.L2.F d))).eval := by
  refine hsum.L2.byRounds (fun (b, n2, h) => b.length) ?_
  rintro ⟨b, n2, h⟩ ⟨hm, s, rfl⟩
  have hm : b.length % 64 = 0 := hm
  by_cases hb : 0 < b.length
  · left
    have e1 : cut b 64 (b.length - 64) = b.drop 64 := by unfold cut; rw [List.take_of_length_le (by simp)]
    have e2 : cut b 0 64 = b.take 64 := rfl
    have hp : mix.Pre (s.l, b.take 64) := ⟨⟨s, rfl⟩, by simp; omega⟩
    refine ⟨(b.drop 64, n2, (mixS s (b.take 64)).l), ⟨by simp; omega, _, rfl⟩, by simp; omega, ?_, fun kn kx => ?_⟩
    · simp only [hsum.L2.add, hsum.L2.F, toSt_l]
      rw [blocks_step s b (by omega)]
    · rw [hsum.L2.step, igt_true (by omega), inc_true (by omega) (by omega), e1, e2]
      simp only [sel_true, mix.run hp, obind_some, mix.add, mix.F, toSt_l]
  · right
    intro R kn kx
    rw [hsum.L2.step, igt_false (by omega)]
    simp only [sel_false, hsum.L2.add, hsum.L2.F, toSt_l]
    rw [blocks_end s b (by omega)]
theorem hsum.L3.ok : ∀ d, hsum.L3.Pre d → ∃ n, lrun Tryz.prog hsum.G hsum.an 0 Tryz.f51 3 n (hsum.L3.st d) (fun e s => some (e, s)) = (hsum.L3.out (hsum.L3.add d (hsum.L3.F d))).eval := by
  refine hsum.L3.byRounds (fun (t, n2, h) => 32 - t.toNat) ?_
  rintro ⟨t, m, h⟩ ⟨hl, h8, k, hk, rfl⟩
  have hl : m.length = 32 := hl
  have h8 : h.length = 8 := h8
  have e2 : Int.toNat (k : Int) = k := by omega
  have e3 : Int.toNat ((k + 1 : Nat) : Int) = k + 1 := by omega
  by_cases hlt : k < 32
  · left
    have e1 : iadd .i64 (k : Int) 1 = ((k + 1 : Nat) : Int) := by rw [iadd_i64 (by omega) (by omega)]; omega
    have q4 : iquo .i64 (k : Int) 4 = ((k / 4 : Nat) : Int) := by
      have : (k : Int).tdiv 4 = ((k / 4 : Nat) : Int) := by rw [Int.tdiv_eq_ediv_of_nonneg (by omega)]; omega
      unfold iquo
      rw [this, i64_wrap (by omega) (by omega)]
    have r4 : irem (k : Int) 4 = ((k % 4 : Nat) : Int) := by
      unfold irem
      rw [Int.tmod_eq_emod_of_nonneg (by omega)]
      omega
    have s4 : isub .i64 24 (imul .i64 8 ((k % 4 : Nat) : Int)) = ((24 - 8 * (k % 4) : Nat) : Int) := by
      rw [imul_i64 (by omega) (by omega), isub_i64 (by omega) (by omega)]
      omega
    have e4 : Int.toNat ((k / 4 : Nat) : Int) = k / 4 := by omega
    refine ⟨(((k + 1 : Nat) : Int), m.set k (bytAt h k m[k]), h), ⟨by simpa using hl, h8, k + 1, by omega, rfl⟩, by simp; omega, ?_, fun kn kx => ?_⟩
    · simp only [hsum.L3.add, hsum.L3.F, e2, e3]
      rw [from_step (bytAt h) m k (by omega)]
    · have d0 : decide (k < 32) = true := dec_true hlt
      have d1 : decide (k / 4 < 8) = true := dec_true (by omega)
      rw [hsum.L3.step, ilt_true (by omega), q4, r4, s4, inb_true (by omega) (by omega), inb_true (by omega) (by omega), nonneg_true (by omega)]
      simp only [e1, e2, e4, Nat.mul_one, Nat.zero_add, Nat.add_zero, decide_true, sel_true, hl, h8, d0, d1, bytAt]
  · right
    obtain rfl : k = 32 := by omega
    intro R kn kx
    rw [hsum.L3.step, ilt_false (by omega)]
    simp only [sel_false, hsum.L3.add, hsum.L3.F, e2]
    rw [from_end _ _ _ (by omega)]
theorem ofInt8_vw (w : W) : BitVec.ofInt 8 (vw w) = w.setWidth 8 := by
  apply BitVec.eq_of_toNat_eq
  rw [BitVec.toNat_ofInt, BitVec.toNat_setWidth]
  unfold vw
  omega
theorem byt_eq (w : W) (k : Int) : icv .u8 (ishr .u32 (vw w) k) = vw ((w >>> k.toNat).setWidth 8) := by
  rw [ishr_u32, icv_u8, ofInt8_vw]
theorem outb_eq (s : St) : from_ (bytAt s.l) 0 (List.replicate 32 0) = outb s := by
  rw [from_replicate]
  simp only [List.range_eq_range', List.range', List.map_cons, List.map_nil, bytAt, Nat.reduceAdd, Nat.reduceDiv, Nat.reduceMod, Nat.reduceMul, Nat.reduceSub, n0, n1, n2, n3, n4, n5, n6, n7, byt_eq]
  rfl
theorem hsum.ok : ∀ d, hsum.Pre d → arun Tryz.prog hsum.G hsum.an 0 Tryz.f51 (hsum.st d).1 (hsum.st d).2 some = some (hsum.out (hsum.add d (hsum.F d))) := by
  intro b hb
  have hb : b.length ≤ 140737488350000 := hb
  have hr : irem ((b.length : Nat) : Int) 64 = ((b.length % 64 : Nat) : Int) := by
    unfold irem
    rw [Int.tmod_eq_emod_of_nonneg (by omega)]
    omega
  have hs : isub .i64 ((b.length : Nat) : Int) ((b.length % 64 : Nat) : Int) = ((b.length - b.length % 64 : Nat) : Int) := by
    rw [isub_i64 (by omega) (by omega)]; omega
  have hn : Int.toNat ((b.length - b.length % 64 : Nat) : Int) = b.length - b.length % 64 := by omega
  have hm : imul .i64 8 ((b.length : Nat) : Int) = 8 * (b.length : Int) := imul_i64 (by omega) (by omega)
  generalize hq : b.length - b.length % 64 = q at hs hn
  have hc : cut b q (b.length - q) = b.drop q := by unfold cut; rw [List.take_of_length_le (by simp)]
  have hcl : (b.drop q).length = b.length % 64 := by simp; omega
  have p1 : clone8.Pre (b.drop q) := by show (b.drop q).length ≤ _; omega
  rw [hsum.eq, hr, hs, inc_true (by omega) (by omega), hn, hc]
  simp only [sel_true, clone8.run p1, obind_some, clone8.add, clone8.F, Nat.le_refl, decide_true, List.take_length]
  have p2 : hsum.L0.Pre (b, (b.drop q).length + 1, List.replicate 32 0, b.drop q ++ [128]) := by
    refine ⟨by simp, ?_⟩
    simp only [List.length_append, List.length_cons, List.length_nil, zc]
    omega
  have hz : zc (b.drop q ++ [128]).length = padn b.length := by
    simp only [List.length_append, List.length_cons, List.length_nil, zc, padn]
    omega
  rw [room1 (by omega)]
  simp only [sel_true, hsum.L0.run p2, obind_some, hsum.L0.add, hsum.L0.F, hm, hz]
  have hlen : (b.drop q ++ [128]).length + padn b.length = (b.drop q ++ [128] ++ List.replicate (padn b.length) 0).length := by rw [@List.length_append _ (b.drop q ++ [128]), List.length_replicate]
  have p3 : longs.Pre ((b.drop q ++ [128]).length + padn b.length, 8 * (b.length : Int), b.drop q ++ [128] ++ List.replicate (padn b.length) 0) := by
    refine ⟨hlen, ?_⟩
    simp only [List.length_append, List.length_cons, List.length_nil, List.length_replicate, padn]
    omega
  have p4 : hsum.L1.Pre (b, (b.drop q ++ [128] ++ List.replicate (padn b.length) 0).length + 8, List.replicate 32 0, first0.l, b.drop q ++ [128] ++ List.replicate (padn b.length) 0 ++ be8 (8 * (b.length : Int))) := ⟨first0, rfl⟩
  simp only [longs.run p3, obind_some, longs.add, longs.F, first.run (d := ()) trivial, first.add, first.F, hsum.L1.run p4, hsum.L1.add, hsum.L1.F, toSt_l]
  generalize he : b.drop q ++ [128] ++ List.replicate (padn b.length) 0 ++ be8 (8 * (b.length : Int)) = e
  have hel : (b.drop q ++ [128] ++ List.replicate (padn b.length) 0).length + 8 = e.length := by rw [← he, @List.length_append _ _ (be8 _), be8_length]
  have hem : e.length % 64 = 0 := by
    rw [← hel]
    simp only [List.length_append, List.length_cons, List.length_nil, List.length_replicate, padn, hcl]
    omega
  have hce : cut e 0 ((b.drop q ++ [128] ++ List.replicate (padn b.length) 0).length + 8) = e := by
    rw [hel]; unfold cut; rw [List.drop_zero, List.take_length]
  rw [hce, hel, dec_true ⟨trivial, by omega⟩]
  have p5 : hsum.L2.Pre (e, List.replicate 32 0, (blocks first0 b).l) := ⟨hem, blocks first0 b, rfl⟩
  have p6 : hsum.L3.Pre (0, List.replicate 32 0, (blocks (blocks first0 b) e).l) := ⟨rfl, rfl, 0, by omega, rfl⟩
  simp only [sel_true, hsum.L2.run p5, obind_some, hsum.L2.add, hsum.L2.F, toSt_l, hsum.L3.run p6, hsum.L3.add, hsum.L3.F, hsum.add, hsum.F]
  rw [show Int.toNat 0 = 0 from rfl, outb_eq]
  have hbl : blocks first0 (pad b) = blocks (blocks first0 b) e := by
    have h1 : pad b = b.take q ++ e := by
      rw [← he]
      unfold pad
      rw [List.append_assoc, List.append_assoc, ← List.append_assoc (b.take q), List.take_append_drop]
      rfl
    have h2 : blocks first0 b = blocks (blocks first0 (b.take q)) (b.drop q) := by
      rw [← blocks_append _ _ _ (by simp; omega), List.take_append_drop]
    rw [h1, blocks_append _ _ _ (by simp; omega), h2, blocks_end _ (b.drop q) (by omega)]
  rw [sha, hbl]

theorem hsum.inj : ∀ d d', hsum.st d = hsum.st d' → d = d' := fun b b' hEq => by
  have e0 : b = b' := d_inj (t := (.slice (.int .u8))) (congrArg (fun s : List AVal × List Ent => (s.1.getD 0 .undef)) hEq)
  rw [e0]
noncomputable def hsum.E : Entry := Entry.of [some (.slice (.int .u8))] hsum.st hsum.Pre (fun d => hsum.add d (hsum.F d)) hsum.out
noncomputable def hsum.call : hsum.D → Option hsum.X := fun d => hsum.E.run (hsum.st d).1 (hsum.st d).2
theorem hsum.run {d : hsum.D} (h : hsum.Pre d) : hsum.call d = some (hsum.add d (hsum.F d)) := Entry.of_run hsum.inj h
theorem hsum.does : Does Tryz.prog 51 hsum.E := Does.of (by kernel_rfl) (show Sound _ hsum.G from Sound.cons clone8.does (Sound.cons longs.does (Sound.cons first.does (Sound.cons mix.does (Sound.nil _))))) (by kernel_rfl) (by kernel_rfl) (by kernel_rfl) (LOk.fn 4 (by kernel_rfl) (And.intro (LDo.of (by kernel_rfl) hsum.L0.ok) (And.intro (LDo.of (by kernel_rfl) hsum.L1.ok) (And.intro (LDo.of (by kernel_rfl) hsum.L2.ok) (And.intro (LDo.of (by kernel_rfl) hsum.L3.ok) trivial))))) hsum.ok

end Go.Ab
namespace Go.Ab
open Go.Proofs
set_option maxRecDepth 100000
set_option linter.unusedVariables false
set_option linter.unusedSimpArgs false

/-! ### corsned/hash.Tag -/
abbrev htag.L0.D := Nat × (List (List Int)) × Int × Int × (List Int) × (List Int)
def htag.L0.st : htag.L0.D → AS := fun (bL, t13, t14, t15, n4, n10) => ⟨(undN 4 ([.ptr (.new 4 0) 0 [] 0, .sref (.new 10 0) 0 [] 0 0 bL] ++ undN 7 ([.d (.slice (.slice (.int .u8))) t13, .d (.int .i64) t14, .d (.int .i64) t15] ++ undN 12 []))), [], (nilN 4 ([[.obj 0 false (.d (.arr 32 (.int .u8)) n4)]] ++ nilN 5 ([[.obj 0 false (.vec 5 (.int .u8) n10)]] ++ nilN 17 [])))⟩
abbrev htag.L0.Y0 := Nat × (List Int)  -- bL, n10
abbrev htag.L0.X0 := ((List Int)) × (Nat × (List Int))
def htag.L0.ex0 : htag.L0.X0 → Exit × AS := fun x => (.exit 0, ⟨(undN 4 ([.ptr (.new 4 0) 0 [] 0, .sref (.new 10 0) 0 [] 0 0 x.2.1] ++ undN 22 [])), [], (nilN 4 ([[.obj 0 false (.d (.arr 32 (.int .u8)) x.1)]] ++ nilN 5 ([[.obj 0 false (.vec 5 (.int .u8) x.2.2)]] ++ nilN 17 [])))⟩)
abbrev htag.L0.X := htag.L0.X0
abbrev htag.L0.Y := htag.L0.Y0
def htag.L0.out : htag.L0.X → Out (Exit × AS) := fun x => .ok (htag.L0.ex0 x)
def htag.L0.add : htag.L0.D → htag.L0.Y → htag.L0.X := fun (bL, t13, t14, t15, n4, n10) y => (n4, y)
abbrev htag.D := ByteArray × (List (List Int))
def htag.st : htag.D → List AVal × List Ent := fun (name, parts) => ([.d .str name, .d (.slice (.slice (.int .u8))) parts], [])
abbrev htag.Y := (List Int)
abbrev htag.X := (List Int)
def htag.out : htag.X → GRes := fun x => ⟨.d (.arr 32 (.int .u8)) x, [], []⟩
def htag.add : htag.D → htag.Y → htag.X := fun (name, parts) y => y


def htag.L0.Pre : htag.L0.D → Prop := fun (m, ps, n, i, n4, l) => m = l.length ∧ n = ps.length ∧ ps.length ≤ 140737488350000 ∧ ∃ k : Nat, k ≤ ps.length ∧ i = k ∧ l.length + (tagp (ps.drop k)).length ≤ 140737488350000
def htag.L0.F : htag.L0.D → htag.L0.Y := fun (m, ps, n, i, n4, l) => (l.length + (tagp (ps.drop i.toNat)).length, l ++ tagp (ps.drop i.toNat))
def htag.Pre : htag.D → Prop := fun (name, ps) => (tagb (bytesOfStr name) ps).length ≤ 140737488350000
def htag.F : htag.D → htag.Y := fun (name, ps) => tag (bytesOfStr name) ps

noncomputable def htag.G : Gam := gcons 109 nilsFirst longn.E (gcons 109 srefFirst longs.E (gcons 51 anyArgs hsum.E (gnil)))
noncomputable def htag.L0.E : LEntry := LEntry.of htag.L0.st htag.L0.Pre (fun d => htag.L0.add d (htag.L0.F d)) htag.L0.out
noncomputable def htag.L0.call : htag.L0.D → Option htag.L0.X := fun d => htag.L0.E.run (htag.L0.st d)
noncomputable def htag.an : Ann := {
  objs := [],
  loops := fun r => bif Nat.beq r 3 then { keep := [4, 5, 13, 14, 15], sites := [4, 10], frz := [], data := [], owns := [⟨5, [], 10, 25⟩] } else { keep := [], sites := [], frz := [], data := [], owns := [] },
  outs := fun r b => bif Nat.beq r 3 then (bif b then { keep := [4], sites := [], frz := [], data := [], owns := [] } else { keep := [4, 5], sites := [4, 10], frz := [], data := [], owns := [] }) else { keep := [], sites := [], frz := [], data := [], owns := [] },
  sums := fun r => bif Nat.beq r 3 then some htag.L0.E else none,
  owns := [],
  trim := [],
  res := [] }
theorem htag.L0.inj : ∀ d d', htag.L0.st d = htag.L0.st d' → d = d' := fun (bL, t13, t14, t15, n4, n10) (bL', t13', t14', t15', n4', n10') hEq => by
  have e0 : bL = bL' := congrArg (fun s : AS => srefLen (s.slot 5)) hEq
  have e1 : t13 = t13' := d_inj (t := (.slice (.slice (.int .u8)))) (congrArg (fun s : AS => (s.slot 13)) hEq)
  have e2 : t14 = t14' := d_inj (t := (.int .i64)) (congrArg (fun s : AS => (s.slot 14)) hEq)
  have e3 : t15 = t15' := d_inj (t := (.int .i64)) (congrArg (fun s : AS => (s.slot 15)) hEq)
  have e4 : n4 = n4' := d_inj (t := (.arr 32 (.int .u8))) (congrArg (fun s : AS => (entC (s.ent (.new 4 0)))) hEq)
  have e5 : n10 = n10' := vec_inj (e := 5) (t := (.int .u8)) (congrArg (fun s : AS => (entC (s.ent (.new 10 0)))) hEq)
  rw [e0, e1, e2, e3, e4, e5]
theorem htag.L0.run {d : htag.L0.D} (h : htag.L0.Pre d) : htag.L0.call d = some (htag.L0.add d (htag.L0.F d)) := LEntry.of_run htag.L0.inj h
theorem htag.L0.byRounds (μ : htag.L0.D → Nat) (h : ∀ d, htag.L0.Pre d → (∃ d', htag.L0.Pre d' ∧ μ d' < μ d ∧ htag.L0.add d' (htag.L0.F d') = htag.L0.add d (htag.L0.F d) ∧ ∀ {R : Type} (kn : AS → Option R) (kx : Exit → AS → Option R), lround Tryz.prog htag.G htag.an 0 Tryz.f54 0 (htag.L0.st d) kn kx = kn (htag.L0.st d')) ∨ (∀ {R : Type} (kn : AS → Option R) (kx : Exit → AS → Option R), lround Tryz.prog htag.G htag.an 0 Tryz.f54 0 (htag.L0.st d) kn kx = kx (htag.L0.ex0 (htag.L0.add d (htag.L0.F d))).1 (htag.L0.ex0 (htag.L0.add d (htag.L0.F d))).2)) : ∀ d, htag.L0.Pre d → ∃ n, lrun Tryz.prog htag.G htag.an 0 Tryz.f54 0 n (htag.L0.st d) (fun e s => some (e, s)) = (htag.L0.out (htag.L0.add d (htag.L0.F d))).eval := lrun_one (F := fun d => htag.L0.add d (htag.L0.F d)) μ h
theorem htag.L0.step {R : Type} (bL : Nat) (t13 : (List (List Int))) (t14 : Int) (t15 : Int) (n4 : (List Int)) (n10 : (List Int)) (kn : AS → Option R) (kx : Exit → AS → Option R) : lround Tryz.prog htag.G htag.an 0 Tryz.f54 0 (htag.L0.st (bL, t13, t14, t15, n4, n10)) kn kx =
  sel ((ilt t15 t14)) (
   sel (inb t15 (((List.length t13) : Nat) : Int)) (
   obind (longs.call (bL, (((List.length (nth (.slice (.int .u8)) t13 (Int.toNat t15))) : Nat) : Int), n10)) fun x1 =>
   sel (decide (x1.1 ≤ (List.length x1.2))) (
   sel (roomA (x1.1 + (List.length (nth (.slice (.int .u8)) t13 (Int.toNat t15)))) 1) (
   kn (htag.L0.st ((x1.1 + (List.length (nth (.slice (.int .u8)) t13 (Int.toNat t15)))), t13, t14, (iadd .i64 t15 (1 : Int)), n4, ((List.take x1.1 x1.2) ++ (nth (.slice (.int .u8)) t13 (Int.toNat t15)))))) none) none) none) (
   kx (htag.L0.ex0 (n4, (bL, n10))).1 (htag.L0.ex0 (n4, (bL, n10))).2) := by kernel_rfl
theorem htag.eq {R : Type} (name : ByteArray) (parts : (List (List Int))) (k : GRes → Option R) : arun Tryz.prog htag.G htag.an 0 Tryz.f54 (htag.st (name, parts)).1 (htag.st (name, parts)).2 k =
  obind (longn.call (((ByteArray.size name) : Nat) : Int)) fun x1 =>
  sel (decide (x1.1 ≤ (List.length x1.2))) (
  sel (roomA (x1.1 + (List.length (bytesOfStr name))) 1) (
  obind (htag.L0.call ((x1.1 + (List.length (bytesOfStr name))), parts, (((List.length parts) : Nat) : Int), (0 : Int), (List.replicate 32 (0 : Int)), ((List.take x1.1 x1.2) ++ (bytesOfStr name)))) fun x4 =>
  sel (decide (0 = 0 ∧ (0 + x4.2.1) ≤ (List.length x4.2.2))) (
  obind (hsum.call (cut x4.2.2 0 x4.2.1)) fun x5 =>
  k (htag.out x5)) none) none) none := by kernel_rfl


theorem tagp_cons (p : List Int) (ps : List (List Int)) : tagp (p :: ps) = be8 p.length ++ p ++ tagp ps := by simp [tagp]
theorem tagp_drop (ps : List (List Int)) (k : Nat) (h : k < ps.length) : tagp (ps.drop k) = be8 ps[k].length ++ ps[k] ++ tagp (ps.drop (k + 1)) := by
  rw [List.drop_eq_getElem_cons h, tagp_cons]
theorem htag.L0.ok : ∀ d, htag.L0.Pre d → ∃ n, lrun Tryz.prog htag.G htag.an 0 Tryz.f54 0 n (htag.L0.st d) (fun e s => some (e, s)) = (htag.L0.out (htag.L0.add d (htag.L0.F d))).eval := by
  refine htag.L0.byRounds (fun (m, ps, n, i, n4, l) => ps.length - i.toNat) ?_
  rintro ⟨m, ps, n, i, n4, l⟩ ⟨rfl, rfl, hpl, k, hk, rfl, hl⟩
  have hl : l.length + (tagp (ps.drop k)).length ≤ 140737488350000 := hl
  have hk : k ≤ ps.length := hk
  have e2 : Int.toNat (k : Int) = k := by omega
  have e3 : Int.toNat ((k + 1 : Nat) : Int) = k + 1 := by omega
  by_cases h : k < ps.length
  · left
    have ht := tagp_drop ps k h
    have hlen : (tagp (ps.drop k)).length = 8 + ps[k].length + (tagp (ps.drop (k + 1))).length := by rw [ht]; simp only [List.length_append, be8_length]
    have hn : nth (.slice (.int .u8)) ps k = ps[k] := nth_lt (t := .slice (.int .u8)) h
    have hpl : ps.length ≤ 140737488350000 := hpl
    have e1 : iadd .i64 (k : Int) 1 = ((k + 1 : Nat) : Int) := by rw [iadd_i64 (by omega) (by omega)]; omega
    refine ⟨((l ++ be8 ps[k].length ++ ps[k]).length, ps, (ps.length : Int), ((k + 1 : Nat) : Int), n4, l ++ be8 ps[k].length ++ ps[k]), ⟨rfl, rfl, hpl, k + 1, by show k + 1 ≤ ps.length; omega, rfl, ?_⟩, ?_, ?_, fun kn kx => ?_⟩
    · show (l ++ be8 ps[k].length ++ ps[k]).length + (tagp (ps.drop (k + 1))).length ≤ _
      simp only [List.length_append, be8_length]; omega
    · show ps.length - Int.toNat ((k + 1 : Nat) : Int) < ps.length - Int.toNat (k : Int)
      omega
    · simp only [htag.L0.add, htag.L0.F, e2, e3, ht, List.append_assoc]
      simp only [List.length_append, be8_length, Nat.add_assoc]
    · have p1 : longs.Pre (l.length, (ps[k].length : Int), l) := ⟨rfl, by show l.length ≤ _; omega⟩
      rw [htag.L0.step, ilt_true (by omega), inb_true (by omega) (by omega), e1, e2]
      simp only [sel_true, hn, longs.run p1, obind_some, longs.add, longs.F]
      have hlb : (l ++ be8 ps[k].length).length = l.length + 8 := by simp [be8_length]
      rw [hlb, dec_true (Nat.le_refl _), room1 (by omega)]
      simp only [sel_true]
      rw [List.take_of_length_le (by rw [hlb]; omega)]
      simp only [List.length_append, be8_length, Nat.add_assoc]
  · right
    obtain rfl : k = ps.length := by omega
    intro R kn kx
    rw [htag.L0.step, ilt_false (by omega)]
    simp only [sel_false, htag.L0.add, htag.L0.F, e2, List.drop_length]
    simp [tagp]
theorem tagp_len : ∀ ps : List (List Int), 8 * ps.length ≤ (tagp ps).length
  | [] => by simp [tagp]
  | p :: ps => by
    rw [tagp_cons]
    have := tagp_len ps
    simp only [List.length_append, be8_length, List.length_cons]
    omega
theorem bytesOfStr_length (s : ByteArray) : (bytesOfStr s).length = s.size := by simp only [bytesOfStr, List.length_map, Array.length_toList]; rfl
theorem htag.ok : ∀ d, htag.Pre d → arun Tryz.prog htag.G htag.an 0 Tryz.f54 (htag.st d).1 (htag.st d).2 some = some (htag.out (htag.add d (htag.F d))) := by
  rintro ⟨name, ps⟩ hp
  have hp : (be8 (bytesOfStr name).length ++ bytesOfStr name ++ tagp ps).length ≤ 140737488350000 := hp
  have hl : (be8 (bytesOfStr name).length ++ bytesOfStr name ++ tagp ps).length = 8 + (bytesOfStr name).length + (tagp ps).length := by simp only [List.length_append, be8_length]
  have hpl := tagp_len ps
  have hsz : ((name.size : Nat) : Int) = (((bytesOfStr name).length : Nat) : Int) := by rw [bytesOfStr_length]
  rw [htag.eq, longn.run (d := ((name.size : Nat) : Int)) trivial, hsz]
  simp only [obind_some, longn.add, longn.F, be8_length, Nat.le_refl, decide_true, sel_true]
  rw [room1 (by omega), List.take_of_length_le (by rw [be8_length]; omega)]
  have p2 : htag.L0.Pre (8 + (bytesOfStr name).length, ps, (ps.length : Int), 0, List.replicate 32 0, be8 ((bytesOfStr name).length : Int) ++ bytesOfStr name) := by
    refine ⟨by simp only [List.length_append, be8_length], rfl, by show ps.length ≤ _; omega, 0, Nat.zero_le _, rfl, ?_⟩
    rw [List.drop_zero]
    simp only [List.length_append, be8_length]
    omega
  simp only [sel_true, htag.L0.run p2, obind_some, htag.L0.add, htag.L0.F, Int.toNat_zero, List.drop_zero]
  have hcut : cut (be8 ((bytesOfStr name).length : Int) ++ bytesOfStr name ++ tagp ps) 0 ((be8 ((bytesOfStr name).length : Int) ++ bytesOfStr name).length + (tagp ps).length) = tagb (bytesOfStr name) ps := by
    unfold cut
    rw [List.drop_zero, List.take_of_length_le (by simp only [List.length_append]; omega)]
    rfl
  have p3 : hsum.Pre (tagb (bytesOfStr name) ps) := hp
  rw [dec_true ⟨trivial, by simp only [List.length_append]; omega⟩, hcut]
  simp only [sel_true, hsum.run p3, obind_some, hsum.add, hsum.F, htag.add, htag.F, tag]

theorem htag.inj : ∀ d d', htag.st d = htag.st d' → d = d' := fun (name, parts) (name', parts') hEq => by
  have e0 : name = name' := d_inj (t := .str) (congrArg (fun s : List AVal × List Ent => (s.1.getD 0 .undef)) hEq)
  have e1 : parts = parts' := d_inj (t := (.slice (.slice (.int .u8)))) (congrArg (fun s : List AVal × List Ent => (s.1.getD 1 .undef)) hEq)
  rw [e0, e1]
noncomputable def htag.E : Entry := Entry.of [some .str, some (.slice (.slice (.int .u8)))] htag.st htag.Pre (fun d => htag.add d (htag.F d)) htag.out
noncomputable def htag.call : htag.D → Option htag.X := fun d => htag.E.run (htag.st d).1 (htag.st d).2
theorem htag.run {d : htag.D} (h : htag.Pre d) : htag.call d = some (htag.add d (htag.F d)) := Entry.of_run htag.inj h
theorem htag.does : Does Tryz.prog 54 htag.E := Does.of (by kernel_rfl) (show Sound _ htag.G from Sound.cons longn.does (Sound.cons longs.does (Sound.cons hsum.does (Sound.nil _)))) (by kernel_rfl) (by kernel_rfl) (by kernel_rfl) (LOk.fn 1 (by kernel_rfl) (And.intro (LDo.of (by kernel_rfl) htag.L0.ok) trivial)) htag.ok

end Go.Ab
namespace Go.Ab
open Go.Proofs
set_option maxRecDepth 100000
set_option linter.unusedVariables false
set_option linter.unusedSimpArgs false

/-! ### corsned/corsnedref04.turn -/
abbrev rturn.D := Int × Int
def rturn.st : rturn.D → List AVal × List Ent := fun (x, n) => ([.d (.int .u32) x, .d (.int .i64) n], [])
abbrev rturn.Y := Int
abbrev rturn.X := Int
def rturn.out : rturn.X → GRes := fun x => ⟨.d (.int .u32) x, [], []⟩
def rturn.add : rturn.D → rturn.Y → rturn.X := fun (x, n) y => y


def rturn.Pre : rturn.D → Prop := fun (x, n) => 0 ≤ x ∧ x < 4294967296 ∧ 0 ≤ n ∧ n ≤ 32
def rturn.F : rturn.D → rturn.Y := fun (x, n) => vw (rotr (BitVec.ofInt 32 x) n.toNat)

noncomputable def rturn.G : Gam := gnil
noncomputable def rturn.an : Ann := {
  objs := [],
  loops := fun r => { keep := [], sites := [], frz := [], data := [], owns := [] },
  outs := fun r b => { keep := [], sites := [], frz := [], data := [], owns := [] },
  sums := fun r => none,
  owns := [],
  trim := [],
  res := [] }
theorem rturn.eq {R : Type} (x : Int) (n : Int) (k : GRes → Option R) : arun Tryz.prog rturn.G rturn.an 0 Tryz.f173 (rturn.st (x, n)).1 (rturn.st (x, n)).2 k =
  sel (nonneg n) (
  sel (nonneg (isub .i64 (32 : Int) n)) (
  k (rturn.out (bitop .or .u32 (ishr .u32 x n) (ishl .u32 x (isub .i64 (32 : Int) n))))) none) none := by kernel_rfl


theorem rturn.ok : ∀ d, rturn.Pre d → arun Tryz.prog rturn.G rturn.an 0 Tryz.f173 (rturn.st d).1 (rturn.st d).2 some = some (rturn.out (rturn.add d (rturn.F d))) := by
  rintro ⟨x, n⟩ ⟨h1, h2, h3, h4⟩
  obtain ⟨n, rfl⟩ := Int.eq_ofNat_of_zero_le h3
  have hx : x = vw (BitVec.ofInt 32 x) := by rw [vw_ofInt]; have h1 : 0 ≤ x := h1; have h2 : x < 4294967296 := h2; omega
  have h4 : (n : Int) ≤ 32 := h4
  rw [rturn.eq]
  simp (disch := omega) only [↓N.lt, ↓N.le, ↓N.gt, ↓N.ge, ↓N.eq, ↓N.ne, ↓N.ib, ↓N.ic, ↓N.nn, ↓N.nz, ↓N.dc, ↓N.rm, ↓N.an, ↓N.or, ↓N.no, ↓if_pos, ↓if_neg, ↓sel_true, ↓sel_false, ↓obind_some, if_pos, if_neg, obind_some, N.aNN, N.aNL, N.aLN, N.sNN, N.sNL, N.sLN, N.mNN, N.mNL, N.mLN, N.qNN, N.qNL, N.rNN, N.rNL, N.cN, N.cL, N.tL, Int.toNat_natCast, if_true, if_false, and_self, true_and, and_true]
  have e2 : bitop .or .u32 (ishr .u32 x (n : Int)) (ishl .u32 x ((32 - n : Nat) : Int)) = vw (rotr (BitVec.ofInt 32 x) n) := by
    conv => lhs; rw [hx]
    rw [ishl_u32, ishr_u32, bitop_u32]
    simp only [rotr, Int.toNat_natCast]
    rw [BitVec.or_comm]
  rw [e2]
  rfl

theorem rturn.inj : ∀ d d', rturn.st d = rturn.st d' → d = d' := fun (x, n) (x', n') hEq => by
  have e0 : x = x' := d_inj (t := (.int .u32)) (congrArg (fun s : List AVal × List Ent => (s.1.getD 0 .undef)) hEq)
  have e1 : n = n' := d_inj (t := (.int .i64)) (congrArg (fun s : List AVal × List Ent => (s.1.getD 1 .undef)) hEq)
  rw [e0, e1]
noncomputable def rturn.E : Entry := Entry.of [some (.int .u32), some (.int .i64)] rturn.st rturn.Pre (fun d => rturn.add d (rturn.F d)) rturn.out
noncomputable def rturn.call : rturn.D → Option rturn.X := fun d => rturn.E.run (rturn.st d).1 (rturn.st d).2
theorem rturn.run {d : rturn.D} (h : rturn.Pre d) : rturn.call d = some (rturn.add d (rturn.F d)) := Entry.of_run rturn.inj h
theorem rturn.does : Does Tryz.prog 173 rturn.E := Does.of (by kernel_rfl) (show Sound _ rturn.G from Sound.nil _) (by kernel_rfl) (by kernel_rfl) (by kernel_rfl) (LOk.fn 0 (by kernel_rfl) trivial) rturn.ok


theorem rturn.at (w : W) {k : Int} (h : 0 ≤ k ∧ k ≤ 32) : rturn.call (vw w, k) = some (vw (rotr w k.toNat)) := by
  have h : rturn.Pre (vw w, k) := ⟨vw_nonneg w, by have := vw_lt w; simpa using this, h.1, h.2⟩
  rw [rturn.run h]
  show some (vw (rotr (BitVec.ofInt 32 (vw w)) k.toNat)) = _
  rw [ofInt_vw]

/-! ### corsned/corsnedref04.firsts -/
abbrev rfirsts.D := Unit
def rfirsts.st : rfirsts.D → List AVal × List Ent := fun _ => ([], [])
abbrev rfirsts.Y := (List Int)
abbrev rfirsts.X := (List Int)
def rfirsts.out : rfirsts.X → GRes := fun x => ⟨.d (.slice (.int .u32)) x, [], []⟩
def rfirsts.add : rfirsts.D → rfirsts.Y → rfirsts.X := fun _ y => y


def rfirsts.Pre : rfirsts.D → Prop := fun _ => True
def rfirsts.F : rfirsts.D → rfirsts.Y := fun _ => first0.l

noncomputable def rfirsts.G : Gam := gnil
noncomputable def rfirsts.an : Ann := {
  objs := [1],
  loops := fun r => { keep := [], sites := [], frz := [], data := [], owns := [] },
  outs := fun r b => { keep := [], sites := [], frz := [], data := [], owns := [] },
  sums := fun r => none,
  owns := [],
  trim := [],
  res := [some (.slice (.int .u32))] }
theorem rfirsts.eq {R : Type}  (k : GRes → Option R) : arun Tryz.prog rfirsts.G rfirsts.an 0 Tryz.f155 (rfirsts.st ()).1 (rfirsts.st ()).2 k =
  k (rfirsts.out [(1779033703 : Int), (3144134277 : Int), (1013904242 : Int), (2773480762 : Int), (1359893119 : Int), (2600822924 : Int), (528734635 : Int), (1541459225 : Int)]) := by kernel_rfl


theorem rfirsts.ok : ∀ d, rfirsts.Pre d → arun Tryz.prog rfirsts.G rfirsts.an 0 Tryz.f155 (rfirsts.st d).1 (rfirsts.st d).2 some = some (rfirsts.out (rfirsts.add d (rfirsts.F d))) := by
  intro d _
  rw [rfirsts.eq]
  rfl

theorem rfirsts.inj : ∀ d d', rfirsts.st d = rfirsts.st d' → d = d' := fun _ _ _ => rfl
noncomputable def rfirsts.E : Entry := Entry.of [] rfirsts.st rfirsts.Pre (fun d => rfirsts.add d (rfirsts.F d)) rfirsts.out
noncomputable def rfirsts.call : rfirsts.D → Option rfirsts.X := fun d => rfirsts.E.run (rfirsts.st d).1 (rfirsts.st d).2
theorem rfirsts.run {d : rfirsts.D} (h : rfirsts.Pre d) : rfirsts.call d = some (rfirsts.add d (rfirsts.F d)) := Entry.of_run rfirsts.inj h
theorem rfirsts.does : Does Tryz.prog 155 rfirsts.E := Does.of (by kernel_rfl) (show Sound _ rfirsts.G from Sound.nil _) (by kernel_rfl) (by kernel_rfl) (by kernel_rfl) (LOk.fn 0 (by kernel_rfl) trivial) rfirsts.ok

/-! ### corsned/corsnedref04.adds -/
abbrev radds.D := Unit
def radds.st : radds.D → List AVal × List Ent := fun _ => ([], [])
abbrev radds.Y := (List Int)
abbrev radds.X := (List Int)
def radds.out : radds.X → GRes := fun x => ⟨.d (.slice (.int .u32)) x, [], []⟩
def radds.add : radds.D → radds.Y → radds.X := fun _ y => y


def radds.Pre : radds.D → Prop := fun _ => True
def radds.F : radds.D → radds.Y := fun _ => kint

noncomputable def radds.G : Gam := gnil
noncomputable def radds.an : Ann := {
  objs := [1],
  loops := fun r => { keep := [], sites := [], frz := [], data := [], owns := [] },
  outs := fun r b => { keep := [], sites := [], frz := [], data := [], owns := [] },
  sums := fun r => none,
  owns := [],
  trim := [],
  res := [some (.slice (.int .u32))] }
theorem radds.eq {R : Type}  (k : GRes → Option R) : arun Tryz.prog radds.G radds.an 0 Tryz.f172 (radds.st ()).1 (radds.st ()).2 k =
  k (radds.out [(1116352408 : Int), (1899447441 : Int), (3049323471 : Int), (3921009573 : Int), (961987163 : Int), (1508970993 : Int), (2453635748 : Int), (2870763221 : Int), (3624381080 : Int), (310598401 : Int), (607225278 : Int), (1426881987 : Int), (1925078388 : Int), (2162078206 : Int), (2614888103 : Int), (3248222580 : Int), (3835390401 : Int), (4022224774 : Int), (264347078 : Int), (604807628 : Int), (770255983 : Int), (1249150122 : Int), (1555081692 : Int), (1996064986 : Int), (2554220882 : Int), (2821834349 : Int), (2952996808 : Int), (3210313671 : Int), (3336571891 : Int), (3584528711 : Int), (113926993 : Int), (338241895 : Int), (666307205 : Int), (773529912 : Int), (1294757372 : Int), (1396182291 : Int), (1695183700 : Int), (1986661051 : Int), (2177026350 : Int), (2456956037 : Int), (2730485921 : Int), (2820302411 : Int), (3259730800 : Int), (3345764771 : Int), (3516065817 : Int), (3600352804 : Int), (4094571909 : Int), (275423344 : Int), (430227734 : Int), (506948616 : Int), (659060556 : Int), (883997877 : Int), (958139571 : Int), (1322822218 : Int), (1537002063 : Int), (1747873779 : Int), (1955562222 : Int), (2024104815 : Int), (2227730452 : Int), (2361852424 : Int), (2428436474 : Int), (2756734187 : Int), (3204031479 : Int), (3329325298 : Int)]) := by kernel_rfl


theorem radds.ok : ∀ d, radds.Pre d → arun Tryz.prog radds.G radds.an 0 Tryz.f172 (radds.st d).1 (radds.st d).2 some = some (radds.out (radds.add d (radds.F d))) := by
  intro d _
  rw [radds.eq]
  rfl

theorem radds.inj : ∀ d d', radds.st d = radds.st d' → d = d' := fun _ _ _ => rfl
noncomputable def radds.E : Entry := Entry.of [] radds.st radds.Pre (fun d => radds.add d (radds.F d)) radds.out
noncomputable def radds.call : radds.D → Option radds.X := fun d => radds.E.run (radds.st d).1 (radds.st d).2
theorem radds.run {d : radds.D} (h : radds.Pre d) : radds.call d = some (radds.add d (radds.F d)) := Entry.of_run radds.inj h
theorem radds.does : Does Tryz.prog 172 radds.E := Does.of (by kernel_rfl) (show Sound _ radds.G from Sound.nil _) (by kernel_rfl) (by kernel_rfl) (by kernel_rfl) (LOk.fn 0 (by kernel_rfl) trivial) radds.ok

/-! ### corsned/corsnedref04.padded -/
abbrev rpadded.L0.D := (List Int) × Nat × (List Int)
def rpadded.L0.st : rpadded.L0.D → AS := fun (b_2, outL, n6) => ⟨([.d (.slice (.int .u8)) b_2, .undef, .undef, .sref (.new 6 0) 0 [] 0 0 outL] ++ undN 31 []), [], (nilN 6 ([[.obj 0 false (.vec 5 (.int .u8) n6)]] ++ nilN 28 []))⟩
abbrev rpadded.L0.Y0 := Nat × (List Int)  -- outL, n6
abbrev rpadded.L0.X0 := ((List Int)) × (Nat × (List Int))
def rpadded.L0.ex0 : rpadded.L0.X0 → Exit × AS := fun x => (.exit 0, ⟨([.d (.slice (.int .u8)) x.1, .undef, .undef, .sref (.new 6 0) 0 [] 0 0 x.2.1] ++ undN 31 []), [], (nilN 6 ([[.obj 0 false (.vec 5 (.int .u8) x.2.2)]] ++ nilN 28 []))⟩)
abbrev rpadded.L0.X := rpadded.L0.X0
abbrev rpadded.L0.Y := rpadded.L0.Y0
def rpadded.L0.out : rpadded.L0.X → Out (Exit × AS) := fun x => .ok (rpadded.L0.ex0 x)
def rpadded.L0.add : rpadded.L0.D → rpadded.L0.Y → rpadded.L0.X := fun (b_2, outL, n6) y => (b_2, y)
abbrev rpadded.L1.D := Nat × Int × Int × (List Int)
def rpadded.L1.st : rpadded.L1.D → AS := fun (outL_2, n, kv, n6_2) => ⟨([.undef, .undef, .undef, .sref (.new 6 0) 0 [] 0 0 outL_2, .d (.int .u64) n, .d (.int .i64) kv] ++ undN 29 []), [], (nilN 6 ([[.obj 0 false (.vec 5 (.int .u8) n6_2)]] ++ nilN 28 []))⟩
abbrev rpadded.L1.Y0 := Nat × (List Int)  -- outL, n6
abbrev rpadded.L1.X0 := Nat × (List Int)
def rpadded.L1.ex0 : rpadded.L1.X0 → Exit × AS := fun x => (.exit 2, ⟨([.undef, .undef, .undef, .sref (.new 6 0) 0 [] 0 0 x.1] ++ undN 31 []), [], (nilN 6 ([[.obj 0 false (.vec 5 (.int .u8) x.2)]] ++ nilN 28 []))⟩)
abbrev rpadded.L1.X := rpadded.L1.X0
abbrev rpadded.L1.Y := rpadded.L1.Y0
def rpadded.L1.out : rpadded.L1.X → Out (Exit × AS) := fun x => .ok (rpadded.L1.ex0 x)
def rpadded.L1.add : rpadded.L1.D → rpadded.L1.Y → rpadded.L1.X := fun (outL_2, n, kv, n6_2) y => y
abbrev rpadded.D := (List Int)
def rpadded.st : rpadded.D → List AVal × List Ent := fun b => ([.d (.slice (.int .u8)) b], [])
abbrev rpadded.Y := (List Int)
abbrev rpadded.X := (List Int)
def rpadded.out : rpadded.X → GRes := fun x => ⟨.d (.slice (.int .u8)) x, [], []⟩
def rpadded.add : rpadded.D → rpadded.Y → rpadded.X := fun b y => y


def rpadded.L0.Pre : rpadded.L0.D → Prop := fun (b, m, l) => m = l.length ∧ l.length + zc l.length ≤ 140737488355328
def rpadded.L0.F : rpadded.L0.D → rpadded.L0.Y := fun (b, m, l) => (l.length + zc l.length, l ++ List.replicate (zc l.length) 0)
def rpadded.L1.Pre : rpadded.L1.D → Prop := fun (m, n, kv, l) => 0 ≤ n ∧ n < 18446744073709551616 ∧ ∃ j : Nat, j ≤ 8 ∧ kv = 56 - 8 * (j : Int) ∧ m = l.length ∧ l.length ≤ 140737488355320 + j
def rpadded.L1.F : rpadded.L1.D → rpadded.L1.Y := fun (m, n, kv, l) => (l.length + (be8 n).length - (7 - (kv / 8)).toNat, l ++ (be8 n).drop (7 - (kv / 8)).toNat)
def rpadded.Pre : rpadded.D → Prop := fun b => b.length ≤ 140737488350000
def rpadded.F : rpadded.D → rpadded.Y := fun b => pad b

noncomputable def rpadded.G : Gam := gnil
noncomputable def rpadded.L0.E : LEntry := LEntry.of rpadded.L0.st rpadded.L0.Pre (fun d => rpadded.L0.add d (rpadded.L0.F d)) rpadded.L0.out
noncomputable def rpadded.L0.call : rpadded.L0.D → Option rpadded.L0.X := fun d => rpadded.L0.E.run (rpadded.L0.st d)
noncomputable def rpadded.L1.E : LEntry := LEntry.of rpadded.L1.st rpadded.L1.Pre (fun d => rpadded.L1.add d (rpadded.L1.F d)) rpadded.L1.out
noncomputable def rpadded.L1.call : rpadded.L1.D → Option rpadded.L1.X := fun d => rpadded.L1.E.run (rpadded.L1.st d)
noncomputable def rpadded.an : Ann := {
  objs := [6],
  loops := fun r => bif Nat.beq r 3 then { keep := [0, 3], sites := [6], frz := [], data := [], owns := [⟨3, [], 6, 25⟩] } else bif Nat.beq r 7 then { keep := [3, 4, 5], sites := [6], frz := [], data := [], owns := [⟨3, [], 6, 25⟩] } else { keep := [], sites := [], frz := [], data := [], owns := [] },
  outs := fun r b => bif Nat.beq r 3 then (bif b then { keep := [2], sites := [], frz := [], data := [], owns := [] } else { keep := [0, 3], sites := [6], frz := [], data := [], owns := [] }) else bif Nat.beq r 7 then (bif b then { keep := [2], sites := [], frz := [], data := [], owns := [] } else { keep := [3], sites := [6], frz := [], data := [], owns := [] }) else { keep := [], sites := [], frz := [], data := [], owns := [] },
  sums := fun r => bif Nat.beq r 3 then some rpadded.L0.E else bif Nat.beq r 7 then some rpadded.L1.E else none,
  owns := [],
  trim := [],
  res := [some (.slice (.int .u8))] }
theorem rpadded.L0.inj : ∀ d d', rpadded.L0.st d = rpadded.L0.st d' → d = d' := fun (b_2, outL, n6) (b_2', outL', n6') hEq => by
  have e0 : b_2 = b_2' := d_inj (t := (.slice (.int .u8))) (congrArg (fun s : AS => (s.slot 0)) hEq)
  have e1 : outL = outL' := congrArg (fun s : AS => srefLen (s.slot 3)) hEq
  have e2 : n6 = n6' := vec_inj (e := 5) (t := (.int .u8)) (congrArg (fun s : AS => (entC (s.ent (.new 6 0)))) hEq)
  rw [e0, e1, e2]
theorem rpadded.L0.run {d : rpadded.L0.D} (h : rpadded.L0.Pre d) : rpadded.L0.call d = some (rpadded.L0.add d (rpadded.L0.F d)) := LEntry.of_run rpadded.L0.inj h
theorem rpadded.L0.byRounds (μ : rpadded.L0.D → Nat) (h : ∀ d, rpadded.L0.Pre d → (∃ d', rpadded.L0.Pre d' ∧ μ d' < μ d ∧ rpadded.L0.add d' (rpadded.L0.F d') = rpadded.L0.add d (rpadded.L0.F d) ∧ ∀ {R : Type} (kn : AS → Option R) (kx : Exit → AS → Option R), lround Tryz.prog rpadded.G rpadded.an 0 Tryz.f154 0 (rpadded.L0.st d) kn kx = kn (rpadded.L0.st d')) ∨ (∀ {R : Type} (kn : AS → Option R) (kx : Exit → AS → Option R), lround Tryz.prog rpadded.G rpadded.an 0 Tryz.f154 0 (rpadded.L0.st d) kn kx = kx (rpadded.L0.ex0 (rpadded.L0.add d (rpadded.L0.F d))).1 (rpadded.L0.ex0 (rpadded.L0.add d (rpadded.L0.F d))).2)) : ∀ d, rpadded.L0.Pre d → ∃ n, lrun Tryz.prog rpadded.G rpadded.an 0 Tryz.f154 0 n (rpadded.L0.st d) (fun e s => some (e, s)) = (rpadded.L0.out (rpadded.L0.add d (rpadded.L0.F d))).eval := lrun_one (F := fun d => rpadded.L0.add d (rpadded.L0.F d)) μ h
theorem rpadded.L0.step {R : Type} (b_2 : (List Int)) (outL : Nat) (n6 : (List Int)) (kn : AS → Option R) (kx : Exit → AS → Option R) : lround Tryz.prog rpadded.G rpadded.an 0 Tryz.f154 0 (rpadded.L0.st (b_2, outL, n6)) kn kx =
  sel ((ine (irem ((outL : Nat) : Int) (64 : Int)) (56 : Int))) (
   sel (decide (outL ≤ (List.length n6))) (
   sel (roomA (outL + 1) 1) (
   kn (rpadded.L0.st (b_2, (outL + 1), ((List.take outL n6) ++ [(0 : Int)])))) none) none) (
   kx (rpadded.L0.ex0 (b_2, (outL, n6))).1 (rpadded.L0.ex0 (b_2, (outL, n6))).2) := by kernel_rfl
theorem rpadded.L1.inj : ∀ d d', rpadded.L1.st d = rpadded.L1.st d' → d = d' := fun (outL_2, n, kv, n6_2) (outL_2', n', kv', n6_2') hEq => by
  have e0 : outL_2 = outL_2' := congrArg (fun s : AS => srefLen (s.slot 3)) hEq
  have e1 : n = n' := d_inj (t := (.int .u64)) (congrArg (fun s : AS => (s.slot 4)) hEq)
  have e2 : kv = kv' := d_inj (t := (.int .i64)) (congrArg (fun s : AS => (s.slot 5)) hEq)
  have e3 : n6_2 = n6_2' := vec_inj (e := 5) (t := (.int .u8)) (congrArg (fun s : AS => (entC (s.ent (.new 6 0)))) hEq)
  rw [e0, e1, e2, e3]
theorem rpadded.L1.run {d : rpadded.L1.D} (h : rpadded.L1.Pre d) : rpadded.L1.call d = some (rpadded.L1.add d (rpadded.L1.F d)) := LEntry.of_run rpadded.L1.inj h
theorem rpadded.L1.byRounds (μ : rpadded.L1.D → Nat) (h : ∀ d, rpadded.L1.Pre d → (∃ d', rpadded.L1.Pre d' ∧ μ d' < μ d ∧ rpadded.L1.add d' (rpadded.L1.F d') = rpadded.L1.add d (rpadded.L1.F d) ∧ ∀ {R : Type} (kn : AS → Option R) (kx : Exit → AS → Option R), lround Tryz.prog rpadded.G rpadded.an 0 Tryz.f154 1 (rpadded.L1.st d) kn kx = kn (rpadded.L1.st d')) ∨ (∀ {R : Type} (kn : AS → Option R) (kx : Exit → AS → Option R), lround Tryz.prog rpadded.G rpadded.an 0 Tryz.f154 1 (rpadded.L1.st d) kn kx = kx (rpadded.L1.ex0 (rpadded.L1.add d (rpadded.L1.F d))).1 (rpadded.L1.ex0 (rpadded.L1.add d (rpadded.L1.F d))).2)) : ∀ d, rpadded.L1.Pre d → ∃ n, lrun Tryz.prog rpadded.G rpadded.an 0 Tryz.f154 1 n (rpadded.L1.st d) (fun e s => some (e, s)) = (rpadded.L1.out (rpadded.L1.add d (rpadded.L1.F d))).eval := lrun_one (F := fun d => rpadded.L1.add d (rpadded.L1.F d)) μ h
theorem rpadded.L1.step {R : Type} (outL_2 : Nat) (n : Int) (kv : Int) (n6_2 : (List Int)) (kn : AS → Option R) (kx : Exit → AS → Option R) : lround Tryz.prog rpadded.G rpadded.an 0 Tryz.f154 1 (rpadded.L1.st (outL_2, n, kv, n6_2)) kn kx =
  sel ((ige kv (0 : Int))) (
   sel (nonneg kv) (
   sel (decide (outL_2 ≤ (List.length n6_2))) (
   sel (roomA (outL_2 + 1) 1) (
   kn (rpadded.L1.st ((outL_2 + 1), n, (isub .i64 kv (8 : Int)), ((List.take outL_2 n6_2) ++ [(icv .u8 (ishr .u64 n kv))])))) none) none) none) (
   kx (rpadded.L1.ex0 (outL_2, n6_2)).1 (rpadded.L1.ex0 (outL_2, n6_2)).2) := by kernel_rfl
theorem rpadded.eq {R : Type} (b : (List Int)) (k : GRes → Option R) : arun Tryz.prog rpadded.G rpadded.an 0 Tryz.f154 (rpadded.st b).1 (rpadded.st b).2 k =
  sel (roomA (0 + (List.length b)) 1) (
  sel (decide ((0 + (List.length b)) ≤ (List.length ((List.take 0 (List.replicate 0 (0 : Int))) ++ b)))) (
  sel (roomA ((0 + (List.length b)) + 1) 1) (
  obind (rpadded.L0.call (b, ((0 + (List.length b)) + 1), ((List.take (0 + (List.length b)) ((List.take 0 (List.replicate 0 (0 : Int))) ++ b)) ++ [(128 : Int)]))) fun x1 =>
  obind (rpadded.L1.call (x1.2.1, (imul .u64 (8 : Int) (icv .u64 (((List.length x1.1) : Nat) : Int))), (56 : Int), x1.2.2)) fun x2 =>
  sel (decide (0 = 0 ∧ (0 + x2.1) ≤ (List.length x2.2))) (
  k (rpadded.out (cut x2.2 0 x2.1))) none) none) none) none := by kernel_rfl


theorem rpadded.L0.ok : ∀ d, rpadded.L0.Pre d → ∃ n, lrun Tryz.prog rpadded.G rpadded.an 0 Tryz.f154 0 n (rpadded.L0.st d) (fun e s => some (e, s)) = (rpadded.L0.out (rpadded.L0.add d (rpadded.L0.F d))).eval := by
  refine rpadded.L0.byRounds (fun (b, m, l) => zc l.length) ?_
  rintro ⟨b, m, l⟩ ⟨rfl, hl⟩
  have hl : l.length + zc l.length ≤ 140737488355328 := hl
  by_cases h : l.length % 64 = 56
  · right
    intro R kn kx
    have hz : zc l.length = 0 := by unfold zc; omega
    rw [rpadded.L0.step]
    simp (disch := omega) only [↓N.lt, ↓N.le, ↓N.gt, ↓N.ge, ↓N.eq, ↓N.ne, ↓N.ib, ↓N.ic, ↓N.nn, ↓N.nz, ↓N.dc, ↓N.rm, ↓N.an, ↓N.or, ↓N.no, ↓if_pos, ↓if_neg, ↓sel_true, ↓sel_false, ↓obind_some, if_pos, if_neg, obind_some, N.aNN, N.aNL, N.aLN, N.sNN, N.sNL, N.sLN, N.mNN, N.mNL, N.mLN, N.qNN, N.qNL, N.rNN, N.rNL, N.cN, N.cL, N.tL, Int.toNat_natCast, if_true, if_false, and_self, true_and, and_true, rpadded.L0.add, rpadded.L0.F, hz, Nat.add_zero, List.replicate_zero, List.append_nil]
  · left
    have hz : zc l.length = zc (l.length + 1) + 1 := by unfold zc; omega
    refine ⟨(b, l.length + 1, l ++ [0]), ⟨by simp, by simp only [List.length_append, List.length_cons, List.length_nil, Nat.zero_add]; omega⟩, by simp only [List.length_append, List.length_cons, List.length_nil, Nat.zero_add]; omega, ?_, fun kn kx => ?_⟩
    · simp only [rpadded.L0.add, rpadded.L0.F, List.length_append, List.length_cons, List.length_nil, Nat.zero_add, hz, List.append_assoc, List.cons_append, List.nil_append, List.replicate_succ]
      rw [show l.length + 1 + zc (l.length + 1) = l.length + (zc (l.length + 1) + 1) by omega]
    · rw [rpadded.L0.step]
      simp (disch := omega) only [↓N.lt, ↓N.le, ↓N.gt, ↓N.ge, ↓N.eq, ↓N.ne, ↓N.ib, ↓N.ic, ↓N.nn, ↓N.nz, ↓N.dc, ↓N.rm, ↓N.an, ↓N.or, ↓N.no, ↓if_pos, ↓if_neg, ↓sel_true, ↓sel_false, ↓obind_some, if_pos, if_neg, obind_some, N.aNN, N.aNL, N.aLN, N.sNN, N.sNL, N.sLN, N.mNN, N.mNL, N.mLN, N.qNN, N.qNL, N.rNN, N.rNL, N.cN, N.cL, N.tL, Int.toNat_natCast, if_true, if_false, and_self, true_and, and_true, List.take_length]
theorem be8_drop (n : Int) (j : Nat) (h : j < 8) : (be8 n).drop j = n / 2 ^ (56 - 8 * j) % 256 :: (be8 n).drop (j + 1) := by
  rcases (by omega : j = 0 ∨ j = 1 ∨ j = 2 ∨ j = 3 ∨ j = 4 ∨ j = 5 ∨ j = 6 ∨ j = 7) with rfl | rfl | rfl | rfl | rfl | rfl | rfl | rfl <;> simp [be8]
theorem u64_byte (n : Int) (k : Nat) (h1 : k ≤ 64) : icv .u8 (ishr .u64 n (k : Int)) = n / 2 ^ k % 256 := by
  rw [icv_u8, vw_ofInt, ishr]
  have e : min (k : Int).toNat IntKind.u64.bits = k := by simp only [IntKind.bits]; omega
  rw [e, Int.fdiv_eq_ediv_of_nonneg _ (Int.le_of_lt (Int.pow_pos (by omega)))]
  rfl
theorem rpadded.L1.ok : ∀ d, rpadded.L1.Pre d → ∃ n, lrun Tryz.prog rpadded.G rpadded.an 0 Tryz.f154 1 n (rpadded.L1.st d) (fun e s => some (e, s)) = (rpadded.L1.out (rpadded.L1.add d (rpadded.L1.F d))).eval := by
  refine rpadded.L1.byRounds (fun (m, n, kv, l) => (kv + 8).toNat) ?_
  rintro ⟨m, n, kv, l⟩ ⟨h1, h2, j, hj, rfl, rfl, hl⟩
  have hl : l.length ≤ 140737488355320 + j := hl
  have e1 : (7 - ((56 - 8 * (j : Int)) / 8)).toNat = j := by omega
  by_cases h : j < 8
  · left
    have e2 : isub .i64 (56 - 8 * (j : Int)) 8 = 56 - 8 * ((j + 1 : Nat) : Int) := by rw [isub_i64 (by omega) (by omega)]; omega
    have e3 : (7 - ((56 - 8 * ((j + 1 : Nat) : Int)) / 8)).toNat = j + 1 := by omega
    have e4 : (56 - 8 * (j : Int)) = ((56 - 8 * j : Nat) : Int) := by omega
    refine ⟨(l.length + 1, n, 56 - 8 * ((j + 1 : Nat) : Int), l ++ [n / 2 ^ (56 - 8 * j) % 256]), ⟨h1, h2, j + 1, by omega, rfl, by simp, by simp only [List.length_append, List.length_cons, List.length_nil]; omega⟩, by simp only; omega, ?_, fun kn kx => ?_⟩
    · simp only [rpadded.L1.add, rpadded.L1.F, e1, e3, be8_drop n j h, List.length_append, List.length_cons, List.length_nil, List.append_assoc, List.cons_append, List.nil_append, be8_length]
      rw [show l.length + (0 + 1) + 8 - (j + 1) = l.length + 8 - j by omega]
    · rw [rpadded.L1.step, e2, e4, u64_byte n _ (by omega)]
      simp (disch := omega) only [↓N.lt, ↓N.le, ↓N.gt, ↓N.ge, ↓N.eq, ↓N.ne, ↓N.ib, ↓N.ic, ↓N.nn, ↓N.nz, ↓N.dc, ↓N.rm, ↓N.an, ↓N.or, ↓N.no, ↓if_pos, ↓if_neg, ↓sel_true, ↓sel_false, ↓obind_some, if_pos, if_neg, obind_some, N.aNN, N.aNL, N.aLN, N.sNN, N.sNL, N.sLN, N.mNN, N.mNL, N.mLN, N.qNN, N.qNL, N.rNN, N.rNL, N.cN, N.cL, N.tL, Int.toNat_natCast, if_true, if_false, and_self, true_and, and_true, List.take_length]
  · right
    obtain rfl : j = 8 := by omega
    intro R kn kx
    rw [rpadded.L1.step]
    simp (disch := omega) only [↓N.lt, ↓N.le, ↓N.gt, ↓N.ge, ↓N.eq, ↓N.ne, ↓N.ib, ↓N.ic, ↓N.nn, ↓N.nz, ↓N.dc, ↓N.rm, ↓N.an, ↓N.or, ↓N.no, ↓if_pos, ↓if_neg, ↓sel_true, ↓sel_false, ↓obind_some, if_pos, if_neg, obind_some, N.aNN, N.aNL, N.aLN, N.sNN, N.sNL, N.sLN, N.mNN, N.mNL, N.mLN, N.qNN, N.qNL, N.rNN, N.rNL, N.cN, N.cL, N.tL, Int.toNat_natCast, if_true, if_false, and_self, true_and, and_true, rpadded.L1.add, rpadded.L1.F, e1]
    simp [be8]
theorem rpadded.ok : ∀ d, rpadded.Pre d → arun Tryz.prog rpadded.G rpadded.an 0 Tryz.f154 (rpadded.st d).1 (rpadded.st d).2 some = some (rpadded.out (rpadded.add d (rpadded.F d))) := by
  intro b hb
  have hb : b.length ≤ 140737488350000 := hb
  have hz : zc (b ++ [128]).length = padn b.length := by
    simp only [List.length_append, List.length_cons, List.length_nil, zc, padn]
    omega
  have hzb : padn b.length < 64 := by unfold padn; omega
  have p1 : rpadded.L0.Pre (b, b.length + 1, b ++ [128]) := ⟨by simp, by rw [hz]; simp only [List.length_append, List.length_cons, List.length_nil] <;> omega⟩
  have e1 : icv .u64 ((b.length : Nat) : Int) = ((b.length : Nat) : Int) := by rw [icv_u64, vw_ofInt]; omega
  have e2 : imul .u64 8 ((b.length : Nat) : Int) = 8 * (b.length : Int) := by
    unfold imul; rw [wrap_u64, vw_ofInt]; omega
  have e3 : List.take b.length b = b := List.take_length
  rw [rpadded.eq]
  simp only [List.replicate_zero, List.take_nil, List.nil_append, Nat.zero_add, e1, e2, e3]
  simp (disch := omega) only [↓N.lt, ↓N.le, ↓N.gt, ↓N.ge, ↓N.eq, ↓N.ne, ↓N.ib, ↓N.ic, ↓N.nn, ↓N.nz, ↓N.dc, ↓N.rm, ↓N.an, ↓N.or, ↓N.no, ↓if_pos, ↓if_neg, ↓sel_true, ↓sel_false, ↓obind_some, if_pos, if_neg, obind_some, N.aNN, N.aNL, N.aLN, N.sNN, N.sNL, N.sLN, N.mNN, N.mNL, N.mLN, N.qNN, N.qNL, N.rNN, N.rNL, N.cN, N.cL, N.tL, Int.toNat_natCast, if_true, if_false, and_self, true_and, and_true, rpadded.L0.run p1, rpadded.L0.add, rpadded.L0.F, hz]
  have p2 : rpadded.L1.Pre ((b ++ [128]).length + padn b.length, 8 * (b.length : Int), 56, b ++ [128] ++ List.replicate (padn b.length) 0) := by
    refine ⟨by omega, by omega, 0, by omega, rfl, by simp only [List.length_append, List.length_cons, List.length_nil, List.length_replicate] <;> omega, ?_⟩
    simp only [List.length_append, List.length_cons, List.length_nil, List.length_replicate]
    omega
  simp (disch := omega) only [↓N.lt, ↓N.le, ↓N.gt, ↓N.ge, ↓N.eq, ↓N.ne, ↓N.ib, ↓N.ic, ↓N.nn, ↓N.nz, ↓N.dc, ↓N.rm, ↓N.an, ↓N.or, ↓N.no, ↓if_pos, ↓if_neg, ↓sel_true, ↓sel_false, ↓obind_some, if_pos, if_neg, obind_some, N.aNN, N.aNL, N.aLN, N.sNN, N.sNL, N.sLN, N.mNN, N.mNL, N.mLN, N.qNN, N.qNL, N.rNN, N.rNL, N.cN, N.cL, N.tL, Int.toNat_natCast, if_true, if_false, and_self, true_and, and_true, e1, e2, rpadded.L1.run p2, rpadded.L1.add, rpadded.L1.F]
  have e5 : (7 - ((56 : Int) / 8)).toNat = 0 := by decide
  rw [e5, List.drop_zero]
  have e6 : (b ++ [128] ++ List.replicate (padn b.length) 0).length + (be8 (8 * (b.length : Int))).length - 0 = (b ++ [128] ++ List.replicate (padn b.length) 0 ++ be8 (8 * (b.length : Int))).length := by rw [@List.length_append _ _ (be8 _)]; omega
  rw [e6, if_pos (Nat.le_refl _)]
  unfold cut
  rw [List.drop_zero, List.take_length]
  simp only [rpadded.add, rpadded.F, pad, List.append_assoc, List.cons_append, List.nil_append]

theorem rpadded.inj : ∀ d d', rpadded.st d = rpadded.st d' → d = d' := fun b b' hEq => by
  have e0 : b = b' := d_inj (t := (.slice (.int .u8))) (congrArg (fun s : List AVal × List Ent => (s.1.getD 0 .undef)) hEq)
  rw [e0]
noncomputable def rpadded.E : Entry := Entry.of [some (.slice (.int .u8))] rpadded.st rpadded.Pre (fun d => rpadded.add d (rpadded.F d)) rpadded.out
noncomputable def rpadded.call : rpadded.D → Option rpadded.X := fun d => rpadded.E.run (rpadded.st d).1 (rpadded.st d).2
theorem rpadded.run {d : rpadded.D} (h : rpadded.Pre d) : rpadded.call d = some (rpadded.add d (rpadded.F d)) := Entry.of_run rpadded.inj h
theorem rpadded.does : Does Tryz.prog 154 rpadded.E := Does.of (by kernel_rfl) (show Sound _ rpadded.G from Sound.nil _) (by kernel_rfl) (by kernel_rfl) (by kernel_rfl) (LOk.fn 2 (by kernel_rfl) (And.intro (LDo.of (by kernel_rfl) rpadded.L0.ok) (And.intro (LDo.of (by kernel_rfl) rpadded.L1.ok) trivial))) rpadded.ok

end Go.Ab
namespace Go.Ab
open Go.Proofs
set_option maxRecDepth 100000
set_option linter.unusedVariables false
set_option linter.unusedSimpArgs false

/-! ### corsned/corsnedref04.words -/
abbrev rwords.L0.D := (List Int) × Nat × Int × (List Int)
def rwords.L0.st : rwords.L0.D → AS := fun (b_2, wL, i, n49) => ⟨([.d (.slice (.int .u8)) b_2, .undef, .undef, .sref (.new 49 0) 0 [] 0 0 wL, .d (.int .i64) i] ++ undN 94 []), [], (nilN 49 ([[.obj 0 false (.vec 127 (.int .u32) n49)]] ++ nilN 49 []))⟩
abbrev rwords.L0.Y0 := Nat × (List Int)  -- wL, n49
abbrev rwords.L0.X0 := Nat × (List Int)
def rwords.L0.ex0 : rwords.L0.X0 → Exit × AS := fun x => (.exit 0, ⟨([.undef, .undef, .undef, .sref (.new 49 0) 0 [] 0 0 x.1] ++ undN 95 []), [], (nilN 49 ([[.obj 0 false (.vec 127 (.int .u32) x.2)]] ++ nilN 49 []))⟩)
abbrev rwords.L0.X := rwords.L0.X0
abbrev rwords.L0.Y := rwords.L0.Y0
def rwords.L0.out : rwords.L0.X → Out (Exit × AS) := fun x => .ok (rwords.L0.ex0 x)
def rwords.L0.add : rwords.L0.D → rwords.L0.Y → rwords.L0.X := fun (b_2, wL, i, n49) y => y
abbrev rwords.L1.D := Nat × Int × (List Int)
def rwords.L1.st : rwords.L1.D → AS := fun (wL_2, i_2, n49_2) => ⟨([.undef, .undef, .undef, .sref (.new 49 0) 0 [] 0 0 wL_2, .undef, .d (.int .i64) i_2] ++ undN 93 []), [], (nilN 49 ([[.obj 0 false (.vec 127 (.int .u32) n49_2)]] ++ nilN 49 []))⟩
abbrev rwords.L1.Y0 := Nat × (List Int)  -- wL, n49
abbrev rwords.L1.X0 := Nat × (List Int)
def rwords.L1.ex0 : rwords.L1.X0 → Exit × AS := fun x => (.exit 2, ⟨([.undef, .undef, .undef, .sref (.new 49 0) 0 [] 0 0 x.1] ++ undN 95 []), [], (nilN 49 ([[.obj 0 false (.vec 127 (.int .u32) x.2)]] ++ nilN 49 []))⟩)
abbrev rwords.L1.X := rwords.L1.X0
abbrev rwords.L1.Y := rwords.L1.Y0
def rwords.L1.out : rwords.L1.X → Out (Exit × AS) := fun x => .ok (rwords.L1.ex0 x)
def rwords.L1.add : rwords.L1.D → rwords.L1.Y → rwords.L1.X := fun (wL_2, i_2, n49_2) y => y
abbrev rwords.D := (List Int)
def rwords.st : rwords.D → List AVal × List Ent := fun b => ([.d (.slice (.int .u8)) b], [])
abbrev rwords.Y := (List Int)
abbrev rwords.X := (List Int)
def rwords.out : rwords.X → GRes := fun x => ⟨.d (.slice (.int .u32)) x, [], []⟩
def rwords.add : rwords.D → rwords.Y → rwords.X := fun b y => y


def rwords.L0.Pre : rwords.L0.D → Prop := fun (b, m, i, l) => 64 ≤ b.length ∧ ∃ k : Nat, k ≤ 16 ∧ i = k ∧ k = m ∧ l = wl ((words b).take k)
def rwords.L0.F : rwords.L0.D → rwords.L0.Y := fun (b, m, i, l) => (16, wl (words b))
def rwords.L1.Pre : rwords.L1.D → Prop := fun (m, i, l) => ∃ ws : List W, 16 ≤ ws.length ∧ ws.length ≤ 64 ∧ l = wl ws ∧ m = ws.length ∧ i = (ws.length : Nat)
def rwords.L1.F : rwords.L1.D → rwords.L1.Y := fun (m, i, l) => (64, wl (wsN (unwl l) (64 - l.length)))
def rwords.Pre : rwords.D → Prop := fun b => 64 ≤ b.length
def rwords.F : rwords.D → rwords.Y := fun b => wl (sched b)

noncomputable def rwords.G : Gam := gcons 173 anyArgs rturn.E (gnil)
noncomputable def rwords.L0.E : LEntry := LEntry.of rwords.L0.st rwords.L0.Pre (fun d => rwords.L0.add d (rwords.L0.F d)) rwords.L0.out
noncomputable def rwords.L0.call : rwords.L0.D → Option rwords.L0.X := fun d => rwords.L0.E.run (rwords.L0.st d)
noncomputable def rwords.L1.E : LEntry := LEntry.of rwords.L1.st rwords.L1.Pre (fun d => rwords.L1.add d (rwords.L1.F d)) rwords.L1.out
noncomputable def rwords.L1.call : rwords.L1.D → Option rwords.L1.X := fun d => rwords.L1.E.run (rwords.L1.st d)
noncomputable def rwords.an : Ann := {
  objs := [],
  loops := fun r => bif Nat.beq r 3 then { keep := [0, 3, 4], sites := [49], frz := [], data := [], owns := [⟨3, [], 49, 162⟩] } else bif Nat.beq r 7 then { keep := [3, 5], sites := [49], frz := [], data := [], owns := [⟨3, [], 49, 162⟩] } else { keep := [], sites := [], frz := [], data := [], owns := [] },
  outs := fun r b => bif Nat.beq r 3 then (bif b then { keep := [2], sites := [], frz := [], data := [], owns := [] } else { keep := [3], sites := [49], frz := [], data := [], owns := [] }) else bif Nat.beq r 7 then (bif b then { keep := [2], sites := [], frz := [], data := [], owns := [] } else { keep := [3], sites := [49], frz := [], data := [], owns := [] }) else { keep := [], sites := [], frz := [], data := [], owns := [] },
  sums := fun r => bif Nat.beq r 3 then some rwords.L0.E else bif Nat.beq r 7 then some rwords.L1.E else none,
  owns := [],
  trim := [],
  res := [some (.slice (.int .u32))] }
theorem rwords.L0.inj : ∀ d d', rwords.L0.st d = rwords.L0.st d' → d = d' := fun (b_2, wL, i, n49) (b_2', wL', i', n49') hEq => by
  have e0 : b_2 = b_2' := d_inj (t := (.slice (.int .u8))) (congrArg (fun s : AS => (s.slot 0)) hEq)
  have e1 : wL = wL' := congrArg (fun s : AS => srefLen (s.slot 3)) hEq
  have e2 : i = i' := d_inj (t := (.int .i64)) (congrArg (fun s : AS => (s.slot 4)) hEq)
  have e3 : n49 = n49' := vec_inj (e := 127) (t := (.int .u32)) (congrArg (fun s : AS => (entC (s.ent (.new 49 0)))) hEq)
  rw [e0, e1, e2, e3]
theorem rwords.L0.run {d : rwords.L0.D} (h : rwords.L0.Pre d) : rwords.L0.call d = some (rwords.L0.add d (rwords.L0.F d)) := LEntry.of_run rwords.L0.inj h
theorem rwords.L0.byRounds (μ : rwords.L0.D → Nat) (h : ∀ d, rwords.L0.Pre d → (∃ d', rwords.L0.Pre d' ∧ μ d' < μ d ∧ rwords.L0.add d' (rwords.L0.F d') = rwords.L0.add d (rwords.L0.F d) ∧ ∀ {R : Type} (kn : AS → Option R) (kx : Exit → AS → Option R), lround Tryz.prog rwords.G rwords.an 0 Tryz.f171 0 (rwords.L0.st d) kn kx = kn (rwords.L0.st d')) ∨ (∀ {R : Type} (kn : AS → Option R) (kx : Exit → AS → Option R), lround Tryz.prog rwords.G rwords.an 0 Tryz.f171 0 (rwords.L0.st d) kn kx = kx (rwords.L0.ex0 (rwords.L0.add d (rwords.L0.F d))).1 (rwords.L0.ex0 (rwords.L0.add d (rwords.L0.F d))).2)) : ∀ d, rwords.L0.Pre d → ∃ n, lrun Tryz.prog rwords.G rwords.an 0 Tryz.f171 0 n (rwords.L0.st d) (fun e s => some (e, s)) = (rwords.L0.out (rwords.L0.add d (rwords.L0.F d))).eval := lrun_one (F := fun d => rwords.L0.add d (rwords.L0.F d)) μ h
theorem rwords.L0.step {R : Type} (b_2 : (List Int)) (wL : Nat) (i : Int) (n49 : (List Int)) (kn : AS → Option R) (kx : Exit → AS → Option R) : lround Tryz.prog rwords.G rwords.an 0 Tryz.f171 0 (rwords.L0.st (b_2, wL, i, n49)) kn kx =
  sel ((ilt i (16 : Int))) (
   sel (inb (imul .i64 (4 : Int) i) (((List.length b_2) : Nat) : Int)) (
   sel (inb (iadd .i64 (imul .i64 (4 : Int) i) (1 : Int)) (((List.length b_2) : Nat) : Int)) (
   sel (inb (iadd .i64 (imul .i64 (4 : Int) i) (2 : Int)) (((List.length b_2) : Nat) : Int)) (
   sel (inb (iadd .i64 (imul .i64 (4 : Int) i) (3 : Int)) (((List.length b_2) : Nat) : Int)) (
   sel (decide (wL ≤ (List.length n49))) (
   sel (roomA (wL + 1) 4) (
   kn (rwords.L0.st (b_2, (wL + 1), (iadd .i64 i (1 : Int)), ((List.take wL n49) ++ [(bitop .or .u32 (bitop .or .u32 (bitop .or .u32 (ishl .u32 (icv .u32 (nth (.int .u8) b_2 (Int.toNat (imul .i64 (4 : Int) i)))) (24 : Int)) (ishl .u32 (icv .u32 (nth (.int .u8) b_2 (Int.toNat (iadd .i64 (imul .i64 (4 : Int) i) (1 : Int))))) (16 : Int))) (ishl .u32 (icv .u32 (nth (.int .u8) b_2 (Int.toNat (iadd .i64 (imul .i64 (4 : Int) i) (2 : Int))))) (8 : Int))) (icv .u32 (nth (.int .u8) b_2 (Int.toNat (iadd .i64 (imul .i64 (4 : Int) i) (3 : Int))))))])))) none) none) none) none) none) none) (
   kx (rwords.L0.ex0 (wL, n49)).1 (rwords.L0.ex0 (wL, n49)).2) := by kernel_rfl
theorem rwords.L1.inj : ∀ d d', rwords.L1.st d = rwords.L1.st d' → d = d' := fun (wL_2, i_2, n49_2) (wL_2', i_2', n49_2') hEq => by
  have e0 : wL_2 = wL_2' := congrArg (fun s : AS => srefLen (s.slot 3)) hEq
  have e1 : i_2 = i_2' := d_inj (t := (.int .i64)) (congrArg (fun s : AS => (s.slot 5)) hEq)
  have e2 : n49_2 = n49_2' := vec_inj (e := 127) (t := (.int .u32)) (congrArg (fun s : AS => (entC (s.ent (.new 49 0)))) hEq)
  rw [e0, e1, e2]
theorem rwords.L1.run {d : rwords.L1.D} (h : rwords.L1.Pre d) : rwords.L1.call d = some (rwords.L1.add d (rwords.L1.F d)) := LEntry.of_run rwords.L1.inj h
theorem rwords.L1.byRounds (μ : rwords.L1.D → Nat) (h : ∀ d, rwords.L1.Pre d → (∃ d', rwords.L1.Pre d' ∧ μ d' < μ d ∧ rwords.L1.add d' (rwords.L1.F d') = rwords.L1.add d (rwords.L1.F d) ∧ ∀ {R : Type} (kn : AS → Option R) (kx : Exit → AS → Option R), lround Tryz.prog rwords.G rwords.an 0 Tryz.f171 1 (rwords.L1.st d) kn kx = kn (rwords.L1.st d')) ∨ (∀ {R : Type} (kn : AS → Option R) (kx : Exit → AS → Option R), lround Tryz.prog rwords.G rwords.an 0 Tryz.f171 1 (rwords.L1.st d) kn kx = kx (rwords.L1.ex0 (rwords.L1.add d (rwords.L1.F d))).1 (rwords.L1.ex0 (rwords.L1.add d (rwords.L1.F d))).2)) : ∀ d, rwords.L1.Pre d → ∃ n, lrun Tryz.prog rwords.G rwords.an 0 Tryz.f171 1 n (rwords.L1.st d) (fun e s => some (e, s)) = (rwords.L1.out (rwords.L1.add d (rwords.L1.F d))).eval := lrun_one (F := fun d => rwords.L1.add d (rwords.L1.F d)) μ h
theorem rwords.L1.step {R : Type} (wL_2 : Nat) (i_2 : Int) (n49_2 : (List Int)) (kn : AS → Option R) (kx : Exit → AS → Option R) : lround Tryz.prog rwords.G rwords.an 0 Tryz.f171 1 (rwords.L1.st (wL_2, i_2, n49_2)) kn kx =
  sel ((ilt i_2 (64 : Int))) (
   sel (inb (isub .i64 i_2 (15 : Int)) ((wL_2 : Nat) : Int)) (
   sel (decide ((0 + (Int.toNat (isub .i64 i_2 (15 : Int)))) < (List.length n49_2))) (
   sel (decide ((((0 + (Int.toNat (isub .i64 i_2 (15 : Int)))) * 1) + 0) = (0 + ((Int.toNat (isub .i64 i_2 (15 : Int))) * 1)))) (
   sel (inb (isub .i64 i_2 (2 : Int)) ((wL_2 : Nat) : Int)) (
   sel (decide ((0 + (Int.toNat (isub .i64 i_2 (2 : Int)))) < (List.length n49_2))) (
   sel (decide ((((0 + (Int.toNat (isub .i64 i_2 (2 : Int)))) * 1) + 0) = (0 + ((Int.toNat (isub .i64 i_2 (2 : Int))) * 1)))) (
   obind (rturn.call ((nth (.int .u32) n49_2 (0 + (Int.toNat (isub .i64 i_2 (15 : Int))))), (7 : Int))) fun x1 =>
   obind (rturn.call ((nth (.int .u32) n49_2 (0 + (Int.toNat (isub .i64 i_2 (15 : Int))))), (18 : Int))) fun x2 =>
   obind (rturn.call ((nth (.int .u32) n49_2 (0 + (Int.toNat (isub .i64 i_2 (2 : Int))))), (17 : Int))) fun x3 =>
   obind (rturn.call ((nth (.int .u32) n49_2 (0 + (Int.toNat (isub .i64 i_2 (2 : Int))))), (19 : Int))) fun x4 =>
   sel (inb (isub .i64 i_2 (16 : Int)) ((wL_2 : Nat) : Int)) (
   sel (decide ((0 + (Int.toNat (isub .i64 i_2 (16 : Int)))) < (List.length n49_2))) (
   sel (decide ((((0 + (Int.toNat (isub .i64 i_2 (16 : Int)))) * 1) + 0) = (0 + ((Int.toNat (isub .i64 i_2 (16 : Int))) * 1)))) (
   sel (inb (isub .i64 i_2 (7 : Int)) ((wL_2 : Nat) : Int)) (
   sel (decide ((0 + (Int.toNat (isub .i64 i_2 (7 : Int)))) < (List.length n49_2))) (
   sel (decide ((((0 + (Int.toNat (isub .i64 i_2 (7 : Int)))) * 1) + 0) = (0 + ((Int.toNat (isub .i64 i_2 (7 : Int))) * 1)))) (
   sel (decide (wL_2 ≤ (List.length n49_2))) (
   sel (roomA (wL_2 + 1) 4) (
   kn (rwords.L1.st ((wL_2 + 1), (iadd .i64 i_2 (1 : Int)), ((List.take wL_2 n49_2) ++ [(iadd .u32 (iadd .u32 (iadd .u32 (nth (.int .u32) n49_2 (0 + (Int.toNat (isub .i64 i_2 (16 : Int))))) (bitop .xor .u32 (bitop .xor .u32 x1 x2) (ishr .u32 (nth (.int .u32) n49_2 (0 + (Int.toNat (isub .i64 i_2 (15 : Int))))) (3 : Int)))) (nth (.int .u32) n49_2 (0 + (Int.toNat (isub .i64 i_2 (7 : Int)))))) (bitop .xor .u32 (bitop .xor .u32 x3 x4) (ishr .u32 (nth (.int .u32) n49_2 (0 + (Int.toNat (isub .i64 i_2 (2 : Int))))) (10 : Int))))])))) none) none) none) none) none) none) none) none) none) none) none) none) none) none) (
   kx (rwords.L1.ex0 (wL_2, n49_2)).1 (rwords.L1.ex0 (wL_2, n49_2)).2) := by kernel_rfl
theorem rwords.eq {R : Type} (b : (List Int)) (k : GRes → Option R) : arun Tryz.prog rwords.G rwords.an 0 Tryz.f171 (rwords.st b).1 (rwords.st b).2 k =
  obind (rwords.L0.call (b, 0, (0 : Int), ([] : List Int))) fun x1 =>
  obind (rwords.L1.call (x1.1, (16 : Int), x1.2)) fun x10 =>
  sel (decide (0 = 0 ∧ (0 + x10.1) ≤ (List.length x10.2))) (
  k (rwords.out (cut x10.2 0 x10.1))) none := by kernel_rfl


theorem wl_length (ws : List W) : (wl ws).length = ws.length := by simp [wl]
theorem wsN_ext (m : List W) : ∀ n, wsN (ext m) n = wsN m (n + 1)
  | 0 => rfl
  | n + 1 => by rw [wsN, wsN_ext m n]; rfl
theorem be_get (b : List Int) (k : Nat) (h : 4 * k + 3 < b.length) : be b k = be4 (nth (.int .u8) b (4 * k)) (nth (.int .u8) b (4 * k + 1)) (nth (.int .u8) b (4 * k + 2)) (nth (.int .u8) b (4 * k + 3)) := rfl
theorem rwords.L0.ok : ∀ d, rwords.L0.Pre d → ∃ n, lrun Tryz.prog rwords.G rwords.an 0 Tryz.f171 0 n (rwords.L0.st d) (fun e s => some (e, s)) = (rwords.L0.out (rwords.L0.add d (rwords.L0.F d))).eval := by
  refine rwords.L0.byRounds (fun (b, m, i, l) => 16 - m) ?_
  rintro ⟨b, m, i, l⟩ ⟨hb, k, hk, rfl, rfl, rfl⟩
  have hb : 64 ≤ b.length := hb
  have hl : (wl ((words b).take k)).length = k := by rw [wl_length, List.length_take, words_length]; omega
  by_cases h : k < 16
  · left
    refine ⟨(b, k + 1, ((k + 1 : Nat) : Int), wl ((words b).take (k + 1))), ⟨hb, k + 1, by omega, rfl, rfl, rfl⟩, by simp only; omega, rfl, fun kn kx => ?_⟩
    rw [rwords.L0.step]
    simp (disch := omega) only [↓N.lt, ↓N.le, ↓N.gt, ↓N.ge, ↓N.eq, ↓N.ne, ↓N.ib, ↓N.ic, ↓N.nn, ↓N.nz, ↓N.dc, ↓N.rm, ↓N.an, ↓N.or, ↓N.no, ↓if_pos, ↓if_neg, ↓sel_true, ↓sel_false, ↓obind_some, if_pos, if_neg, obind_some, N.aNN, N.aNL, N.aLN, N.sNN, N.sNL, N.sLN, N.mNN, N.mNL, N.mLN, N.qNN, N.qNL, N.rNN, N.rNL, N.cN, N.cL, N.tL, Int.toNat_natCast, if_true, if_false, and_self, true_and, and_true, hl, List.take_of_length_le (Nat.le_of_eq hl)]
    rw [List.take_succ_eq_append_getElem (by rw [words_length]; exact h)]
    simp only [icv_u32, ishl_u32, bitop_u32, wl, List.map_append, List.map_cons, List.map_nil]
    have e : (words b)[k]'(by rw [words_length]; exact h) = be b k := by simp [words]
    rw [e, be_get b k (by omega)]
    rfl
  · right
    obtain rfl : k = 16 := by omega
    intro R kn kx
    rw [rwords.L0.step]
    simp (disch := omega) only [↓N.lt, ↓N.le, ↓N.gt, ↓N.ge, ↓N.eq, ↓N.ne, ↓N.ib, ↓N.ic, ↓N.nn, ↓N.nz, ↓N.dc, ↓N.rm, ↓N.an, ↓N.or, ↓N.no, ↓if_pos, ↓if_neg, ↓sel_true, ↓sel_false, ↓obind_some, if_pos, if_neg, obind_some, N.aNN, N.aNL, N.aLN, N.sNN, N.sNL, N.sLN, N.mNN, N.mNL, N.mLN, N.qNN, N.qNL, N.rNN, N.rNL, N.cN, N.cL, N.tL, Int.toNat_natCast, if_true, if_false, and_self, true_and, and_true, rwords.L0.add, rwords.L0.F]
    rw [List.take_of_length_le (by rw [words_length]; omega)]
theorem rwords.L1.ok : ∀ d, rwords.L1.Pre d → ∃ n, lrun Tryz.prog rwords.G rwords.an 0 Tryz.f171 1 n (rwords.L1.st d) (fun e s => some (e, s)) = (rwords.L1.out (rwords.L1.add d (rwords.L1.F d))).eval := by
  refine rwords.L1.byRounds (fun (m, i, l) => 64 - m) ?_
  rintro ⟨m, i, l⟩ ⟨ws, h1, h2, rfl, rfl, rfl⟩
  have hl := wl_length ws
  by_cases h : ws.length < 64
  · left
    refine ⟨(ws.length + 1, ((ws.length + 1 : Nat) : Int), wl (ext ws)), ⟨ext ws, by rw [ext_length]; omega, by rw [ext_length]; omega, rfl, by rw [ext_length], by rw [ext_length]⟩, by simp only; omega, ?_, fun kn kx => ?_⟩
    · simp only [rwords.L1.add, rwords.L1.F, unwl_wl, wl_length, ext_length]
      rw [wsN_ext, show 64 - (ws.length + 1) + 1 = 64 - ws.length by omega]
    · rw [rwords.L1.step]
      simp (disch := omega) only [↓N.lt, ↓N.le, ↓N.gt, ↓N.ge, ↓N.eq, ↓N.ne, ↓N.ib, ↓N.ic, ↓N.nn, ↓N.nz, ↓N.dc, ↓N.rm, ↓N.an, ↓N.or, ↓N.no, ↓if_pos, ↓if_neg, ↓sel_true, ↓sel_false, ↓obind_some, if_pos, if_neg, obind_some, N.aNN, N.aNL, N.aLN, N.sNN, N.sNL, N.sLN, N.mNN, N.mNL, N.mLN, N.qNN, N.qNL, N.rNN, N.rNL, N.cN, N.cL, N.tL, Int.toNat_natCast, if_true, if_false, and_self, true_and, and_true, hl, Nat.zero_add, Nat.mul_one, Nat.add_zero, wl_get ws _ (by omega : ws.length - 15 < ws.length), wl_get ws _ (by omega : ws.length - 2 < ws.length), wl_get ws _ (by omega : ws.length - 16 < ws.length), wl_get ws _ (by omega : ws.length - 7 < ws.length), rturn.at, bitop_u32, ishr_u32, iadd_u32, List.take_of_length_le (Nat.le_of_eq hl)]
      unfold ext wl
      rw [List.map_append]
      rfl
  · right
    have h64 : ws.length = 64 := by omega
    intro R kn kx
    rw [rwords.L1.step]
    simp (disch := omega) only [↓N.lt, ↓N.le, ↓N.gt, ↓N.ge, ↓N.eq, ↓N.ne, ↓N.ib, ↓N.ic, ↓N.nn, ↓N.nz, ↓N.dc, ↓N.rm, ↓N.an, ↓N.or, ↓N.no, ↓if_pos, ↓if_neg, ↓sel_true, ↓sel_false, ↓obind_some, if_pos, if_neg, obind_some, N.aNN, N.aNL, N.aLN, N.sNN, N.sNL, N.sLN, N.mNN, N.mNL, N.mLN, N.qNN, N.qNL, N.rNN, N.rNL, N.cN, N.cL, N.tL, Int.toNat_natCast, if_true, if_false, and_self, true_and, and_true, rwords.L1.add, rwords.L1.F, hl, h64, unwl_wl, Nat.sub_self]
    rfl
theorem rwords.ok : ∀ d, rwords.Pre d → arun Tryz.prog rwords.G rwords.an 0 Tryz.f171 (rwords.st d).1 (rwords.st d).2 some = some (rwords.out (rwords.add d (rwords.F d))) := by
  intro b hb
  have p1 : rwords.L0.Pre (b, 0, 0, []) := ⟨hb, 0, by omega, rfl, rfl, rfl⟩
  have p2 : rwords.L1.Pre (16, 16, wl (words b)) := ⟨words b, by rw [words_length]; omega, by rw [words_length]; omega, rfl, by rw [words_length], by rw [words_length]; rfl⟩
  have hs : (sched b).length = 64 := by unfold sched; rw [wsN_length, words_length]
  rw [rwords.eq]
  simp (disch := omega) only [↓N.lt, ↓N.le, ↓N.gt, ↓N.ge, ↓N.eq, ↓N.ne, ↓N.ib, ↓N.ic, ↓N.nn, ↓N.nz, ↓N.dc, ↓N.rm, ↓N.an, ↓N.or, ↓N.no, ↓if_pos, ↓if_neg, ↓sel_true, ↓sel_false, ↓obind_some, if_pos, if_neg, obind_some, N.aNN, N.aNL, N.aLN, N.sNN, N.sNL, N.sLN, N.mNN, N.mNL, N.mLN, N.qNN, N.qNL, N.rNN, N.rNL, N.cN, N.cL, N.tL, Int.toNat_natCast, if_true, if_false, and_self, true_and, and_true, rwords.L0.run p1, rwords.L0.add, rwords.L0.F, rwords.L1.run p2, rwords.L1.add, rwords.L1.F, unwl_wl, wl_length, words_length, Nat.zero_add, Nat.reduceSub]
  have e : wsN (words b) 48 = sched b := rfl
  rw [e, hs, if_pos (Nat.le_refl _)]
  unfold cut
  rw [List.drop_zero, List.take_of_length_le (by rw [wl_length]; omega)]
  simp only [rwords.add, rwords.F]

theorem rwords.inj : ∀ d d', rwords.st d = rwords.st d' → d = d' := fun b b' hEq => by
  have e0 : b = b' := d_inj (t := (.slice (.int .u8))) (congrArg (fun s : List AVal × List Ent => (s.1.getD 0 .undef)) hEq)
  rw [e0]
noncomputable def rwords.E : Entry := Entry.of [some (.slice (.int .u8))] rwords.st rwords.Pre (fun d => rwords.add d (rwords.F d)) rwords.out
noncomputable def rwords.call : rwords.D → Option rwords.X := fun d => rwords.E.run (rwords.st d).1 (rwords.st d).2
theorem rwords.run {d : rwords.D} (h : rwords.Pre d) : rwords.call d = some (rwords.add d (rwords.F d)) := Entry.of_run rwords.inj h
theorem rwords.does : Does Tryz.prog 171 rwords.E := Does.of (by kernel_rfl) (show Sound _ rwords.G from Sound.cons rturn.does (Sound.nil _)) (by kernel_rfl) (by kernel_rfl) (by kernel_rfl) (LOk.fn 2 (by kernel_rfl) (And.intro (LDo.of (by kernel_rfl) rwords.L0.ok) (And.intro (LDo.of (by kernel_rfl) rwords.L1.ok) trivial))) rwords.ok

end Go.Ab
namespace Go.Ab
open Go.Proofs
set_option maxRecDepth 100000
set_option linter.unusedVariables false
set_option linter.unusedSimpArgs false

/-! ### corsned/corsnedref04.block -/
abbrev rblock.L0.D := (List Int) × (List Int) × (List Int) × Nat × Int × (List Int)
def rblock.L0.st : rblock.L0.D → AS := fun (h_2, wv, kv, vL, i, n18) => ⟨([.d (.slice (.int .u32)) h_2] ++ undN 4 ([.d (.slice (.int .u32)) wv, .d (.slice (.int .u32)) kv, .sref (.new 18 0) 0 [] 0 0 vL, .d (.int .i64) i] ++ undN 146 [])), [], (nilN 18 ([[.obj 0 false (.vec 127 (.int .u32) n18)]] ++ nilN 136 []))⟩
abbrev rblock.L0.Y0 := Nat × (List Int)  -- vL, n18
abbrev rblock.L0.X0 := ((List Int)) × (Nat × (List Int))
def rblock.L0.ex0 : rblock.L0.X0 → Exit × AS := fun x => (.exit 0, ⟨([.d (.slice (.int .u32)) x.1] ++ undN 6 ([.sref (.new 18 0) 0 [] 0 0 x.2.1] ++ undN 147 [])), [], (nilN 18 ([[.obj 0 false (.vec 127 (.int .u32) x.2.2)]] ++ nilN 136 []))⟩)
abbrev rblock.L0.X := rblock.L0.X0
abbrev rblock.L0.Y := rblock.L0.Y0
def rblock.L0.out : rblock.L0.X → Out (Exit × AS) := fun x => .ok (rblock.L0.ex0 x)
def rblock.L0.add : rblock.L0.D → rblock.L0.Y → rblock.L0.X := fun (h_2, wv, kv, vL, i, n18) y => (h_2, y)
abbrev rblock.L1.D := (List Int) × Nat × Int × (List Int)
def rblock.L1.st : rblock.L1.D → AS := fun (h_3, vL_2, i_2, n18_2) => ⟨([.d (.slice (.int .u32)) h_3] ++ undN 6 ([.sref (.new 18 0) 0 [] 0 0 vL_2] ++ undN 6 ([.d (.int .i64) i_2] ++ undN 140 []))), [], (nilN 18 ([[.obj 0 false (.vec 127 (.int .u32) n18_2)]] ++ nilN 136 []))⟩
abbrev rblock.L1.Y0 := (List Int)  -- n18
abbrev rblock.L1.X0 := (Nat) × ((List Int))
def rblock.L1.ex0 : rblock.L1.X0 → Exit × AS := fun x => (.exit 2, ⟨(undN 7 ([.sref (.new 18 0) 0 [] 0 0 x.1] ++ undN 147 [])), [], (nilN 18 ([[.obj 0 false (.vec 127 (.int .u32) x.2)]] ++ nilN 136 []))⟩)
abbrev rblock.L1.X := rblock.L1.X0
abbrev rblock.L1.Y := rblock.L1.Y0
def rblock.L1.out : rblock.L1.X → Out (Exit × AS) := fun x => .ok (rblock.L1.ex0 x)
def rblock.L1.add : rblock.L1.D → rblock.L1.Y → rblock.L1.X := fun (h_3, vL_2, i_2, n18_2) y => (vL_2, y)
abbrev rblock.D := (List Int) × (List Int)
def rblock.st : rblock.D → List AVal × List Ent := fun (h, b) => ([.d (.slice (.int .u32)) h, .d (.slice (.int .u8)) b], [])
abbrev rblock.Y := (List Int)
abbrev rblock.X := (List Int)
def rblock.out : rblock.X → GRes := fun x => ⟨.d (.slice (.int .u32)) x, [], []⟩
def rblock.add : rblock.D → rblock.Y → rblock.X := fun (h, b) y => y


def rblock.L0.Pre : rblock.L0.D → Prop := fun (h, wv, kv, m, i, l) => ∃ (s : St) (ws : List W) (k : Nat), h = s.l ∧ wv = wl ws ∧ ws.length = 64 ∧ k ≤ 64 ∧ i = k ∧ kv = kint ∧ m = 8 ∧ l = (rounds ws s k).l
def rblock.L0.F : rblock.L0.D → rblock.L0.Y := fun (h, wv, kv, m, i, l) => (8, (rounds (unwl wv) (toSt h) 64).l)
def rblock.L1.Pre : rblock.L1.D → Prop := fun (h, m, i, l) => h.length = 8 ∧ l.length = 8 ∧ m = 8 ∧ ∃ k : Nat, k ≤ 8 ∧ i = k
def rblock.L1.F : rblock.L1.D → rblock.L1.Y := fun (h, m, i, l) => from_ (fun i x => iadd .u32 x (nth (.int .u32) h i)) i.toNat l
def rblock.Pre : rblock.D → Prop := fun (h, b) => (∃ s : St, h = s.l) ∧ 64 ≤ b.length
def rblock.F : rblock.D → rblock.Y := fun (h, b) => (mixS (toSt h) b).l

noncomputable def rblock.G : Gam := gcons 171 anyArgs rwords.E (gcons 172 anyArgs radds.E (gcons 173 anyArgs rturn.E (gnil)))
noncomputable def rblock.L0.E : LEntry := LEntry.of rblock.L0.st rblock.L0.Pre (fun d => rblock.L0.add d (rblock.L0.F d)) rblock.L0.out
noncomputable def rblock.L0.call : rblock.L0.D → Option rblock.L0.X := fun d => rblock.L0.E.run (rblock.L0.st d)
noncomputable def rblock.L1.E : LEntry := LEntry.of rblock.L1.st rblock.L1.Pre (fun d => rblock.L1.add d (rblock.L1.F d)) rblock.L1.out
noncomputable def rblock.L1.call : rblock.L1.D → Option rblock.L1.X := fun d => rblock.L1.E.run (rblock.L1.st d)
noncomputable def rblock.an : Ann := {
  objs := [18, 137],
  loops := fun r => bif Nat.beq r 5 then { keep := [0, 5, 6, 7, 8], sites := [18, 137], frz := [], data := [], owns := [⟨7, [], 18, 0⟩] } else bif Nat.beq r 14 then { keep := [0, 7, 14], sites := [18], frz := [], data := [], owns := [] } else { keep := [], sites := [], frz := [], data := [], owns := [] },
  outs := fun r b => bif Nat.beq r 5 then (bif b then { keep := [4], sites := [], frz := [], data := [], owns := [] } else { keep := [0, 7], sites := [18], frz := [], data := [], owns := [] }) else bif Nat.beq r 14 then (bif b then { keep := [4], sites := [], frz := [], data := [], owns := [] } else { keep := [7], sites := [18], frz := [], data := [], owns := [] }) else { keep := [], sites := [], frz := [], data := [], owns := [] },
  sums := fun r => bif Nat.beq r 5 then some rblock.L0.E else bif Nat.beq r 14 then some rblock.L1.E else none,
  owns := [],
  trim := [],
  res := [some (.slice (.int .u32))] }
theorem rblock.L0.inj : ∀ d d', rblock.L0.st d = rblock.L0.st d' → d = d' := fun (h_2, wv, kv, vL, i, n18) (h_2', wv', kv', vL', i', n18') hEq => by
  have e0 : h_2 = h_2' := d_inj (t := (.slice (.int .u32))) (congrArg (fun s : AS => (s.slot 0)) hEq)
  have e1 : wv = wv' := d_inj (t := (.slice (.int .u32))) (congrArg (fun s : AS => (s.slot 5)) hEq)
  have e2 : kv = kv' := d_inj (t := (.slice (.int .u32))) (congrArg (fun s : AS => (s.slot 6)) hEq)
  have e3 : vL = vL' := congrArg (fun s : AS => srefLen (s.slot 7)) hEq
  have e4 : i = i' := d_inj (t := (.int .i64)) (congrArg (fun s : AS => (s.slot 8)) hEq)
  have e5 : n18 = n18' := vec_inj (e := 127) (t := (.int .u32)) (congrArg (fun s : AS => (entC (s.ent (.new 18 0)))) hEq)
  rw [e0, e1, e2, e3, e4, e5]
theorem rblock.L0.run {d : rblock.L0.D} (h : rblock.L0.Pre d) : rblock.L0.call d = some (rblock.L0.add d (rblock.L0.F d)) := LEntry.of_run rblock.L0.inj h
theorem rblock.L0.byRounds (μ : rblock.L0.D → Nat) (h : ∀ d, rblock.L0.Pre d → (∃ d', rblock.L0.Pre d' ∧ μ d' < μ d ∧ rblock.L0.add d' (rblock.L0.F d') = rblock.L0.add d (rblock.L0.F d) ∧ ∀ {R : Type} (kn : AS → Option R) (kx : Exit → AS → Option R), lround Tryz.prog rblock.G rblock.an 0 Tryz.f156 0 (rblock.L0.st d) kn kx = kn (rblock.L0.st d')) ∨ (∀ {R : Type} (kn : AS → Option R) (kx : Exit → AS → Option R), lround Tryz.prog rblock.G rblock.an 0 Tryz.f156 0 (rblock.L0.st d) kn kx = kx (rblock.L0.ex0 (rblock.L0.add d (rblock.L0.F d))).1 (rblock.L0.ex0 (rblock.L0.add d (rblock.L0.F d))).2)) : ∀ d, rblock.L0.Pre d → ∃ n, lrun Tryz.prog rblock.G rblock.an 0 Tryz.f156 0 n (rblock.L0.st d) (fun e s => some (e, s)) = (rblock.L0.out (rblock.L0.add d (rblock.L0.F d))).eval := lrun_one (F := fun d => rblock.L0.add d (rblock.L0.F d)) μ h
theorem rblock.L0.step {R : Type} (h_2 : (List Int)) (wv : (List Int)) (kv : (List Int)) (vL : Nat) (i : Int) (n18 : (List Int)) (kn : AS → Option R) (kx : Exit → AS → Option R) : lround Tryz.prog rblock.G rblock.an 0 Tryz.f156 0 (rblock.L0.st (h_2, wv, kv, vL, i, n18)) kn kx =
  sel ((ilt i (64 : Int))) (
   sel (inb (4 : Int) ((vL : Nat) : Int)) (
   sel (decide (4 < (List.length n18))) (
   obind (rturn.call ((nth (.int .u32) n18 4), (6 : Int))) fun x1 =>
   sel (inb (4 : Int) ((vL : Nat) : Int)) (
   sel (decide (4 < (List.length n18))) (
   obind (rturn.call ((nth (.int .u32) n18 4), (11 : Int))) fun x2 =>
   sel (inb (4 : Int) ((vL : Nat) : Int)) (
   sel (decide (4 < (List.length n18))) (
   obind (rturn.call ((nth (.int .u32) n18 4), (25 : Int))) fun x3 =>
   sel (inb (4 : Int) ((vL : Nat) : Int)) (
   sel (decide (4 < (List.length n18))) (
   sel (inb (5 : Int) ((vL : Nat) : Int)) (
   sel (decide (5 < (List.length n18))) (
   sel (inb (4 : Int) ((vL : Nat) : Int)) (
   sel (decide (4 < (List.length n18))) (
   sel (inb (6 : Int) ((vL : Nat) : Int)) (
   sel (decide (6 < (List.length n18))) (
   sel (inb (7 : Int) ((vL : Nat) : Int)) (
   sel (decide (7 < (List.length n18))) (
   sel (inb i (((List.length kv) : Nat) : Int)) (
   sel (inb i (((List.length wv) : Nat) : Int)) (
   sel (inb (0 : Int) ((vL : Nat) : Int)) (
   sel (decide (0 < (List.length n18))) (
   obind (rturn.call ((nth (.int .u32) n18 0), (2 : Int))) fun x4 =>
   sel (inb (0 : Int) ((vL : Nat) : Int)) (
   sel (decide (0 < (List.length n18))) (
   obind (rturn.call ((nth (.int .u32) n18 0), (13 : Int))) fun x5 =>
   sel (inb (0 : Int) ((vL : Nat) : Int)) (
   sel (decide (0 < (List.length n18))) (
   obind (rturn.call ((nth (.int .u32) n18 0), (22 : Int))) fun x6 =>
   sel (inb (0 : Int) ((vL : Nat) : Int)) (
   sel (decide (0 < (List.length n18))) (
   sel (inb (1 : Int) ((vL : Nat) : Int)) (
   sel (decide (1 < (List.length n18))) (
   sel (inb (0 : Int) ((vL : Nat) : Int)) (
   sel (decide (0 < (List.length n18))) (
   sel (inb (2 : Int) ((vL : Nat) : Int)) (
   sel (decide (2 < (List.length n18))) (
   sel (inb (1 : Int) ((vL : Nat) : Int)) (
   sel (decide (1 < (List.length n18))) (
   sel (inb (2 : Int) ((vL : Nat) : Int)) (
   sel (decide (2 < (List.length n18))) (
   sel (inb (0 : Int) ((vL : Nat) : Int)) (
   sel (decide (0 < (List.length n18))) (
   sel (inb (1 : Int) ((vL : Nat) : Int)) (
   sel (decide (1 < (List.length n18))) (
   sel (inb (2 : Int) ((vL : Nat) : Int)) (
   sel (decide (2 < (List.length n18))) (
   sel (inb (3 : Int) ((vL : Nat) : Int)) (
   sel (decide (3 < (List.length n18))) (
   sel (inb (4 : Int) ((vL : Nat) : Int)) (
   sel (decide (4 < (List.length n18))) (
   sel (inb (5 : Int) ((vL : Nat) : Int)) (
   sel (decide (5 < (List.length n18))) (
   sel (inb (6 : Int) ((vL : Nat) : Int)) (
   sel (decide (6 < (List.length n18))) (
   kn (rblock.L0.st (h_2, wv, kv, 8, (iadd .i64 i (1 : Int)), [(iadd .u32 (iadd .u32 (iadd .u32 (iadd .u32 (iadd .u32 (iadd .u32 (nth (.int .u32) n18 7) (bitop .xor .u32 (bitop .xor .u32 x1 x2) x3)) (bitop .xor .u32 (bitop .and .u32 (nth (.int .u32) n18 4) (nth (.int .u32) n18 5)) (bitop .and .u32 (inot .u32 (nth (.int .u32) n18 4)) (nth (.int .u32) n18 6)))) (nth (.int .u32) kv (Int.toNat i))) (nth (.int .u32) wv (Int.toNat i))) (bitop .xor .u32 (bitop .xor .u32 x4 x5) x6)) (bitop .xor .u32 (bitop .xor .u32 (bitop .and .u32 (nth (.int .u32) n18 0) (nth (.int .u32) n18 1)) (bitop .and .u32 (nth (.int .u32) n18 0) (nth (.int .u32) n18 2))) (bitop .and .u32 (nth (.int .u32) n18 1) (nth (.int .u32) n18 2)))), (nth (.int .u32) n18 0), (nth (.int .u32) n18 1), (nth (.int .u32) n18 2), (iadd .u32 (nth (.int .u32) n18 3) (iadd .u32 (iadd .u32 (iadd .u32 (iadd .u32 (nth (.int .u32) n18 7) (bitop .xor .u32 (bitop .xor .u32 x1 x2) x3)) (bitop .xor .u32 (bitop .and .u32 (nth (.int .u32) n18 4) (nth (.int .u32) n18 5)) (bitop .and .u32 (inot .u32 (nth (.int .u32) n18 4)) (nth (.int .u32) n18 6)))) (nth (.int .u32) kv (Int.toNat i))) (nth (.int .u32) wv (Int.toNat i)))), (nth (.int .u32) n18 4), (nth (.int .u32) n18 5), (nth (.int .u32) n18 6)]))) none) none) none) none) none) none) none) none) none) none) none) none) none) none) none) none) none) none) none) none) none) none) none) none) none) none) none) none) none) none) none) none) none) none) none) none) none) none) none) none) none) none) none) none) none) none) none) none) none) none) (
   kx (rblock.L0.ex0 (h_2, (vL, n18))).1 (rblock.L0.ex0 (h_2, (vL, n18))).2) := by kernel_rfl
theorem rblock.L1.inj : ∀ d d', rblock.L1.st d = rblock.L1.st d' → d = d' := fun (h_3, vL_2, i_2, n18_2) (h_3', vL_2', i_2', n18_2') hEq => by
  have e0 : h_3 = h_3' := d_inj (t := (.slice (.int .u32))) (congrArg (fun s : AS => (s.slot 0)) hEq)
  have e1 : vL_2 = vL_2' := congrArg (fun s : AS => srefLen (s.slot 7)) hEq
  have e2 : i_2 = i_2' := d_inj (t := (.int .i64)) (congrArg (fun s : AS => (s.slot 14)) hEq)
  have e3 : n18_2 = n18_2' := vec_inj (e := 127) (t := (.int .u32)) (congrArg (fun s : AS => (entC (s.ent (.new 18 0)))) hEq)
  rw [e0, e1, e2, e3]
theorem rblock.L1.run {d : rblock.L1.D} (h : rblock.L1.Pre d) : rblock.L1.call d = some (rblock.L1.add d (rblock.L1.F d)) := LEntry.of_run rblock.L1.inj h
theorem rblock.L1.byRounds (μ : rblock.L1.D → Nat) (h : ∀ d, rblock.L1.Pre d → (∃ d', rblock.L1.Pre d' ∧ μ d' < μ d ∧ rblock.L1.add d' (rblock.L1.F d') = rblock.L1.add d (rblock.L1.F d) ∧ ∀ {R : Type} (kn : AS → Option R) (kx : Exit → AS → Option R), lround Tryz.prog rblock.G rblock.an 0 Tryz.f156 1 (rblock.L1.st d) kn kx = kn (rblock.L1.st d')) ∨ (∀ {R : Type} (kn : AS → Option R) (kx : Exit → AS → Option R), lround Tryz.prog rblock.G rblock.an 0 Tryz.f156 1 (rblock.L1.st d) kn kx = kx (rblock.L1.ex0 (rblock.L1.add d (rblock.L1.F d))).1 (rblock.L1.ex0 (rblock.L1.add d (rblock.L1.F d))).2)) : ∀ d, rblock.L1.Pre d → ∃ n, lrun Tryz.prog rblock.G rblock.an 0 Tryz.f156 1 n (rblock.L1.st d) (fun e s => some (e, s)) = (rblock.L1.out (rblock.L1.add d (rblock.L1.F d))).eval := lrun_one (F := fun d => rblock.L1.add d (rblock.L1.F d)) μ h
theorem rblock.L1.step {R : Type} (h_3 : (List Int)) (vL_2 : Nat) (i_2 : Int) (n18_2 : (List Int)) (kn : AS → Option R) (kx : Exit → AS → Option R) : lround Tryz.prog rblock.G rblock.an 0 Tryz.f156 1 (rblock.L1.st (h_3, vL_2, i_2, n18_2)) kn kx =
  sel ((ilt i_2 (8 : Int))) (
   sel (inb i_2 ((vL_2 : Nat) : Int)) (
   sel (decide ((0 + (Int.toNat i_2)) < (List.length n18_2))) (
   sel (decide ((((0 + (Int.toNat i_2)) * 1) + 0) = (0 + ((Int.toNat i_2) * 1)))) (
   sel (inb i_2 (((List.length h_3) : Nat) : Int)) (
   sel (inb i_2 ((vL_2 : Nat) : Int)) (
   sel (decide ((0 + (Int.toNat i_2)) < (List.length n18_2))) (
   sel (decide ((((0 + (Int.toNat i_2)) * 1) + 0) = (0 + ((Int.toNat i_2) * 1)))) (
   sel (decide ((0 + (Int.toNat i_2)) < (List.length n18_2))) (
   kn (rblock.L1.st (h_3, vL_2, (iadd .i64 i_2 (1 : Int)), (List.set n18_2 (0 + (Int.toNat i_2)) (iadd .u32 (nth (.int .u32) n18_2 (0 + (Int.toNat i_2))) (nth (.int .u32) h_3 (Int.toNat i_2))))))) none) none) none) none) none) none) none) none) (
   kx (rblock.L1.ex0 (vL_2, n18_2)).1 (rblock.L1.ex0 (vL_2, n18_2)).2) := by kernel_rfl
theorem rblock.eq {R : Type} (h : (List Int)) (b : (List Int)) (k : GRes → Option R) : arun Tryz.prog rblock.G rblock.an 0 Tryz.f156 (rblock.st (h, b)).1 (rblock.st (h, b)).2 k =
  obind (rwords.call b) fun x1 =>
  obind (radds.call ()) fun x2 =>
  sel (roomA (0 + (List.length h)) 4) (
  obind (rblock.L0.call (h, x1, x2, (0 + (List.length h)), (0 : Int), ((List.take 0 (List.replicate 0 (0 : Int))) ++ h))) fun x15 =>
  obind (rblock.L1.call (x15.1, x15.2.1, (0 : Int), x15.2.2)) fun x16 =>
  sel (decide (0 = 0 ∧ (0 + x16.1) ≤ (List.length x16.2))) (
  k (rblock.out (cut x16.2 0 x16.1))) none) none := by kernel_rfl


theorem inot_u32 (w : W) : inot .u32 (vw w) = vw (~~~w) := by
  have e : (if IntKind.u32.signed then -1 else IntKind.u32.max : Int) = vw (BitVec.allOnes 32) := rfl
  unfold inot
  rw [e, bitop_u32]
  simp only [BitVec.allOnes_xor]
theorem ch_eq (e f g : W) : (e &&& f) ^^^ (~~~e &&& g) = g ^^^ (e &&& (f ^^^ g)) := by
  ext i hi
  simp only [BitVec.getElem_xor, BitVec.getElem_and, BitVec.getElem_not]
  cases e[i] <;> cases f[i] <;> cases g[i] <;> rfl
theorem maj_eq (a b c : W) : (a &&& b) ^^^ (a &&& c) ^^^ (b &&& c) = (a &&& b) ||| (c &&& (a ||| b)) := by
  ext i hi
  simp only [BitVec.getElem_xor, BitVec.getElem_and, BitVec.getElem_or]
  cases a[i] <;> cases b[i] <;> cases c[i] <;> rfl
theorem rblock.L0.ok : ∀ d, rblock.L0.Pre d → ∃ n, lrun Tryz.prog rblock.G rblock.an 0 Tryz.f156 0 n (rblock.L0.st d) (fun e s => some (e, s)) = (rblock.L0.out (rblock.L0.add d (rblock.L0.F d))).eval := by
  refine rblock.L0.byRounds (fun (h, wv, kv, m, i, l) => 64 - i.toNat) ?_
  rintro ⟨h, wv, kv, m, i, l⟩ ⟨s, ws, k, rfl, rfl, hw, hk, rfl, rfl, rfl, rfl⟩
  by_cases hlt : k < 64
  · left
    refine ⟨(s.l, wl ws, kint, 8, ((k + 1 : Nat) : Int), (rounds ws s (k + 1)).l), ⟨s, ws, k + 1, rfl, rfl, hw, by omega, rfl, rfl, rfl, rfl⟩, by simp only; omega, rfl, fun kn kx => ?_⟩
    rw [rblock.L0.step]
    generalize hv : rounds ws s k = v
    have t1 : ∀ w : W, rturn.call (vw w, 6) = some (vw (rotr w 6)) := fun w => rturn.at w (by omega)
    have t2 : ∀ w : W, rturn.call (vw w, 11) = some (vw (rotr w 11)) := fun w => rturn.at w (by omega)
    have t3 : ∀ w : W, rturn.call (vw w, 25) = some (vw (rotr w 25)) := fun w => rturn.at w (by omega)
    have t4 : ∀ w : W, rturn.call (vw w, 2) = some (vw (rotr w 2)) := fun w => rturn.at w (by omega)
    have t5 : ∀ w : W, rturn.call (vw w, 13) = some (vw (rotr w 13)) := fun w => rturn.at w (by omega)
    have t6 : ∀ w : W, rturn.call (vw w, 22) = some (vw (rotr w 22)) := fun w => rturn.at w (by omega)
    rw [n0, n1, n2, n3, n4, n5, n6, n7, t1, obind_some, t2, obind_some, t3, obind_some, t4, obind_some, t5, obind_some, t6, obind_some]
    simp (disch := omega) only [↓N.lt, ↓N.le, ↓N.gt, ↓N.ge, ↓N.eq, ↓N.ne, ↓N.ib, ↓N.ic, ↓N.nn, ↓N.nz, ↓N.dc, ↓N.rm, ↓N.an, ↓N.or, ↓N.no, ↓if_pos, ↓if_neg, ↓sel_true, ↓sel_false, ↓obind_some, if_pos, if_neg, obind_some, N.aNN, N.aNL, N.aLN, N.sNN, N.sNL, N.sLN, N.mNN, N.mNL, N.mLN, N.qNN, N.qNL, N.rNN, N.rNL, N.cN, N.cL, N.tL, Int.toNat_natCast, if_true, if_false, and_self, true_and, and_true, St.l_length, kint_length, wl_length, hw, kint_get k hlt, wl_get ws k (by omega), bitop_u32, iadd_u32, inot_u32, ch_eq, maj_eq]
    show kn _ = kn (rblock.L0.st (s.l, wl ws, kint, 8, ((k + 1 : Nat) : Int), (rnd (rounds ws s k) (kw k) (ws.getD k 0)).l))
    rw [hv]
    rfl
  · right
    obtain rfl : k = 64 := by omega
    intro R kn kx
    rw [rblock.L0.step]
    simp (disch := omega) only [↓N.lt, ↓N.le, ↓N.gt, ↓N.ge, ↓N.eq, ↓N.ne, ↓N.ib, ↓N.ic, ↓N.nn, ↓N.nz, ↓N.dc, ↓N.rm, ↓N.an, ↓N.or, ↓N.no, ↓if_pos, ↓if_neg, ↓sel_true, ↓sel_false, ↓obind_some, if_pos, if_neg, obind_some, N.aNN, N.aNL, N.aLN, N.sNN, N.sNL, N.sLN, N.mNN, N.mNL, N.mLN, N.qNN, N.qNL, N.rNN, N.rNL, N.cN, N.cL, N.tL, Int.toNat_natCast, if_true, if_false, and_self, true_and, and_true, rblock.L0.add, rblock.L0.F, unwl_wl, toSt_l]
theorem rblock.L1.ok : ∀ d, rblock.L1.Pre d → ∃ n, lrun Tryz.prog rblock.G rblock.an 0 Tryz.f156 1 n (rblock.L1.st d) (fun e s => some (e, s)) = (rblock.L1.out (rblock.L1.add d (rblock.L1.F d))).eval := by
  refine rblock.L1.byRounds (fun (h, m, i, l) => 8 - i.toNat) ?_
  rintro ⟨h, m, i, l⟩ ⟨hh, hl, rfl, k, hk, rfl⟩
  have hl : l.length = 8 := hl
  have hh : h.length = 8 := hh
  by_cases hlt : k < 8
  · left
    have hn : nth (.int .u32) l k = l[k] := nth_lt (t := .int .u32) (by omega)
    refine ⟨(h, 8, ((k + 1 : Nat) : Int), l.set k (iadd .u32 l[k] (nth (.int .u32) h k))), ⟨hh, by simpa using hl, rfl, k + 1, by omega, rfl⟩, by simp only; omega, ?_, fun kn kx => ?_⟩
    · simp only [rblock.L1.add, rblock.L1.F, Int.toNat_natCast]
      rw [from_step (fun i x => iadd .u32 x (nth (.int .u32) h i)) l k (by omega)]
    · rw [rblock.L1.step]
      simp (disch := omega) only [↓N.lt, ↓N.le, ↓N.gt, ↓N.ge, ↓N.eq, ↓N.ne, ↓N.ib, ↓N.ic, ↓N.nn, ↓N.nz, ↓N.dc, ↓N.rm, ↓N.an, ↓N.or, ↓N.no, ↓if_pos, ↓if_neg, ↓sel_true, ↓sel_false, ↓obind_some, if_pos, if_neg, obind_some, N.aNN, N.aNL, N.aLN, N.sNN, N.sNL, N.sLN, N.mNN, N.mNL, N.mLN, N.qNN, N.qNL, N.rNN, N.rNL, N.cN, N.cL, N.tL, Int.toNat_natCast, if_true, if_false, and_self, true_and, and_true, hl, hh, Nat.zero_add, Nat.mul_one, Nat.add_zero, hn]
  · right
    obtain rfl : k = 8 := by omega
    intro R kn kx
    rw [rblock.L1.step]
    simp (disch := omega) only [↓N.lt, ↓N.le, ↓N.gt, ↓N.ge, ↓N.eq, ↓N.ne, ↓N.ib, ↓N.ic, ↓N.nn, ↓N.nz, ↓N.dc, ↓N.rm, ↓N.an, ↓N.or, ↓N.no, ↓if_pos, ↓if_neg, ↓sel_true, ↓sel_false, ↓obind_some, if_pos, if_neg, obind_some, N.aNN, N.aNL, N.aLN, N.sNN, N.sNL, N.sLN, N.mNN, N.mNL, N.mLN, N.qNN, N.qNL, N.rNN, N.rNL, N.cN, N.cL, N.tL, Int.toNat_natCast, if_true, if_false, and_self, true_and, and_true, rblock.L1.add, rblock.L1.F]
    rw [from_end _ _ _ (by omega)]
theorem mixS_l (s : St) (b : List Int) : from_ (fun i x => iadd .u32 x (nth (.int .u32) s.l i)) 0 (rounds (sched b) s 64).l = (mixS s b).l := by
  unfold mixS
  generalize rounds (sched b) s 64 = v
  obtain ⟨a1, b1, c1, d1, f1, g1, h1, i1⟩ := v
  simp only [St.l, from_, List.mapIdx_cons, List.mapIdx_nil, Nat.not_lt_zero, if_false, Nat.zero_add, Nat.reduceAdd]
  simp only [nth, List.getD_cons_zero, List.getD_cons_succ, iadd_u32]
theorem rblock.ok : ∀ d, rblock.Pre d → arun Tryz.prog rblock.G rblock.an 0 Tryz.f156 (rblock.st d).1 (rblock.st d).2 some = some (rblock.out (rblock.add d (rblock.F d))) := by
  rintro ⟨h, b⟩ ⟨⟨s, rfl⟩, hb⟩
  have p0 : rwords.Pre b := hb
  have hsl : (sched b).length = 64 := by unfold sched; rw [wsN_length, words_length]
  have p1 : rblock.L0.Pre (s.l, wl (sched b), kint, 8, 0, s.l) := ⟨s, sched b, 0, rfl, rfl, hsl, by omega, rfl, rfl, rfl, rfl⟩
  have p2 : rblock.L1.Pre (s.l, 8, 0, (rounds (sched b) s 64).l) := ⟨rfl, rfl, rfl, 0, by omega, rfl⟩
  have e0 : 0 + s.l.length = 8 := rfl
  have e1 : List.take 0 (List.replicate 0 (0 : Int)) ++ s.l = s.l := rfl
  rw [rblock.eq]
  simp (disch := omega) only [↓N.lt, ↓N.le, ↓N.gt, ↓N.ge, ↓N.eq, ↓N.ne, ↓N.ib, ↓N.ic, ↓N.nn, ↓N.nz, ↓N.dc, ↓N.rm, ↓N.an, ↓N.or, ↓N.no, ↓if_pos, ↓if_neg, ↓sel_true, ↓sel_false, ↓obind_some, if_pos, if_neg, obind_some, N.aNN, N.aNL, N.aLN, N.sNN, N.sNL, N.sLN, N.mNN, N.mNL, N.mLN, N.qNN, N.qNL, N.rNN, N.rNL, N.cN, N.cL, N.tL, Int.toNat_natCast, if_true, if_false, and_self, true_and, and_true, rwords.run p0, rwords.add, rwords.F, radds.run (d := ()) trivial, radds.add, radds.F, e0, e1, rblock.L0.run p1, rblock.L0.add, rblock.L0.F, unwl_wl, toSt_l, rblock.L1.run p2, rblock.L1.add, rblock.L1.F, Int.toNat_zero, mixS_l]
  have e2 : (mixS s b).l.length = 8 := rfl
  have e3 : cut (mixS s b).l 0 8 = (mixS s b).l := rfl
  simp only [e2, Nat.zero_add, Nat.le_refl, if_true, e3, rblock.add, rblock.F, toSt_l]

theorem rblock.inj : ∀ d d', rblock.st d = rblock.st d' → d = d' := fun (h, b) (h', b') hEq => by
  have e0 : h = h' := d_inj (t := (.slice (.int .u32))) (congrArg (fun s : List AVal × List Ent => (s.1.getD 0 .undef)) hEq)
  have e1 : b = b' := d_inj (t := (.slice (.int .u8))) (congrArg (fun s : List AVal × List Ent => (s.1.getD 1 .undef)) hEq)
  rw [e0, e1]
noncomputable def rblock.E : Entry := Entry.of [some (.slice (.int .u32)), some (.slice (.int .u8))] rblock.st rblock.Pre (fun d => rblock.add d (rblock.F d)) rblock.out
noncomputable def rblock.call : rblock.D → Option rblock.X := fun d => rblock.E.run (rblock.st d).1 (rblock.st d).2
theorem rblock.run {d : rblock.D} (h : rblock.Pre d) : rblock.call d = some (rblock.add d (rblock.F d)) := Entry.of_run rblock.inj h
theorem rblock.does : Does Tryz.prog 156 rblock.E := Does.of (by kernel_rfl) (show Sound _ rblock.G from Sound.cons rwords.does (Sound.cons radds.does (Sound.cons rturn.does (Sound.nil _)))) (by kernel_rfl) (by kernel_rfl) (by kernel_rfl) (LOk.fn 2 (by kernel_rfl) (And.intro (LDo.of (by kernel_rfl) rblock.L0.ok) (And.intro (LDo.of (by kernel_rfl) rblock.L1.ok) trivial))) rblock.ok

end Go.Ab
namespace Go.Ab
open Go.Proofs
set_option maxRecDepth 100000
set_option linter.unusedVariables false
set_option linter.unusedSimpArgs false

/-! ### corsned/corsnedref04.Sum -/
abbrev rsum.L0.D := (List Int) × (List Int) × Int × (List Int)
def rsum.L0.st : rsum.L0.D → AS := fun (p, h, i, n2) => ⟨([.undef, .undef, .ptr (.new 2 0) 0 [] 0, .d (.slice (.int .u8)) p, .d (.slice (.int .u32)) h, .d (.int .i64) i] ++ undN 36 []), [], ([[], [], [.obj 0 false (.d (.arr 32 (.int .u8)) n2)]] ++ nilN 39 [])⟩
abbrev rsum.L0.Y0 := (List Int)  -- h
abbrev rsum.L0.X0 := ((List Int)) × ((List Int))
def rsum.L0.ex0 : rsum.L0.X0 → Exit × AS := fun x => (.exit 0, ⟨([.undef, .undef, .ptr (.new 2 0) 0 [] 0, .undef, .d (.slice (.int .u32)) x.2] ++ undN 37 []), [], ([[], [], [.obj 0 false (.d (.arr 32 (.int .u8)) x.1)]] ++ nilN 39 [])⟩)
abbrev rsum.L0.X := rsum.L0.X0
abbrev rsum.L0.Y := rsum.L0.Y0
def rsum.L0.out : rsum.L0.X → Out (Exit × AS) := fun x => .ok (rsum.L0.ex0 x)
def rsum.L0.add : rsum.L0.D → rsum.L0.Y → rsum.L0.X := fun (p, h, i, n2) y => (n2, y)
abbrev rsum.L1.D := (List Int) × Int × (List Int) × (List Int)
def rsum.L1.st : rsum.L1.D → AS := fun (h_2, i_2, n2_2, n6) => ⟨([.undef, .undef, .ptr (.new 2 0) 0 [] 0, .undef, .d (.slice (.int .u32)) h_2, .undef, .ptr (.new 6 0) 0 [] 0, .d (.int .i64) i_2] ++ undN 34 []), [], ([[], [], [.obj 0 false (.d (.arr 32 (.int .u8)) n2_2)], [], [], [], [.obj 0 false (.d (.arr 32 (.int .u8)) n6)]] ++ nilN 35 [])⟩
abbrev rsum.L1.Y0 := (List Int)  -- n6
abbrev rsum.L1.X0 := ((List Int)) × ((List Int))
def rsum.L1.ex0 : rsum.L1.X0 → Exit × AS := fun x => (.exit 2, ⟨([.undef, .undef, .ptr (.new 2 0) 0 [] 0, .undef, .undef, .undef, .ptr (.new 6 0) 0 [] 0] ++ undN 35 []), [], ([[], [], [.obj 0 false (.d (.arr 32 (.int .u8)) x.1)], [], [], [], [.obj 0 false (.d (.arr 32 (.int .u8)) x.2)]] ++ nilN 35 [])⟩)
abbrev rsum.L1.X := rsum.L1.X0
abbrev rsum.L1.Y := rsum.L1.Y0
def rsum.L1.out : rsum.L1.X → Out (Exit × AS) := fun x => .ok (rsum.L1.ex0 x)
def rsum.L1.add : rsum.L1.D → rsum.L1.Y → rsum.L1.X := fun (h_2, i_2, n2_2, n6) y => (n2_2, y)
abbrev rsum.D := (List Int)
def rsum.st : rsum.D → List AVal × List Ent := fun b => ([.d (.slice (.int .u8)) b], [])
abbrev rsum.Y := (List Int)
abbrev rsum.X := (List Int)
def rsum.out : rsum.X → GRes := fun x => ⟨.d (.arr 32 (.int .u8)) x, [], []⟩
def rsum.add : rsum.D → rsum.Y → rsum.X := fun b y => y


def rsum.L0.Pre : rsum.L0.D → Prop := fun (p, h, i, n2) => p.length % 64 = 0 ∧ p.length ≤ 140737488355328 ∧ ∃ (s : St) (k : Nat), h = s.l ∧ i = ((64 * k : Nat) : Int) ∧ 64 * k ≤ p.length
def rsum.L0.F : rsum.L0.D → rsum.L0.Y := fun (p, h, i, n2) => (blocks (toSt h) (p.drop i.toNat)).l
def rsum.L1.Pre : rsum.L1.D → Prop := fun (h, i, n2, l) => h.length = 8 ∧ l.length = 32 ∧ ∃ k : Nat, k ≤ 32 ∧ i = k
def rsum.L1.F : rsum.L1.D → rsum.L1.Y := fun (h, i, n2, l) => from_ (bytAt h) i.toNat l
def rsum.Pre : rsum.D → Prop := fun b => b.length ≤ 140737488350000
def rsum.F : rsum.D → rsum.Y := fun b => sha b

noncomputable def rsum.G : Gam := gcons 154 anyArgs rpadded.E (gcons 155 anyArgs rfirsts.E (gcons 156 anyArgs rblock.E (gnil)))
noncomputable def rsum.L0.E : LEntry := LEntry.of rsum.L0.st rsum.L0.Pre (fun d => rsum.L0.add d (rsum.L0.F d)) rsum.L0.out
noncomputable def rsum.L0.call : rsum.L0.D → Option rsum.L0.X := fun d => rsum.L0.E.run (rsum.L0.st d)
noncomputable def rsum.L1.E : LEntry := LEntry.of rsum.L1.st rsum.L1.Pre (fun d => rsum.L1.add d (rsum.L1.F d)) rsum.L1.out
noncomputable def rsum.L1.call : rsum.L1.D → Option rsum.L1.X := fun d => rsum.L1.E.run (rsum.L1.st d)
noncomputable def rsum.an : Ann := {
  objs := [],
  loops := fun r => bif Nat.beq r 4 then { keep := [2, 3, 4, 5], sites := [2], frz := [], data := [], owns := [] } else bif Nat.beq r 9 then { keep := [2, 4, 6, 7], sites := [2, 6], frz := [], data := [], owns := [] } else { keep := [], sites := [], frz := [], data := [], owns := [] },
  outs := fun r b => bif Nat.beq r 4 then (bif b then { keep := [2], sites := [], frz := [], data := [], owns := [] } else { keep := [2, 4], sites := [2], frz := [], data := [], owns := [] }) else bif Nat.beq r 9 then (bif b then { keep := [2], sites := [], frz := [], data := [], owns := [] } else { keep := [2, 6], sites := [2, 6], frz := [], data := [], owns := [] }) else { keep := [], sites := [], frz := [], data := [], owns := [] },
  sums := fun r => bif Nat.beq r 4 then some rsum.L0.E else bif Nat.beq r 9 then some rsum.L1.E else none,
  owns := [],
  trim := [],
  res := [] }
theorem rsum.L0.inj : ∀ d d', rsum.L0.st d = rsum.L0.st d' → d = d' := fun (p, h, i, n2) (p', h', i', n2') hEq => by
  have e0 : p = p' := d_inj (t := (.slice (.int .u8))) (congrArg (fun s : AS => (s.slot 3)) hEq)
  have e1 : h = h' := d_inj (t := (.slice (.int .u32))) (congrArg (fun s : AS => (s.slot 4)) hEq)
  have e2 : i = i' := d_inj (t := (.int .i64)) (congrArg (fun s : AS => (s.slot 5)) hEq)
  have e3 : n2 = n2' := d_inj (t := (.arr 32 (.int .u8))) (congrArg (fun s : AS => (entC (s.ent (.new 2 0)))) hEq)
  rw [e0, e1, e2, e3]
theorem rsum.L0.run {d : rsum.L0.D} (h : rsum.L0.Pre d) : rsum.L0.call d = some (rsum.L0.add d (rsum.L0.F d)) := LEntry.of_run rsum.L0.inj h
theorem rsum.L0.byRounds (μ : rsum.L0.D → Nat) (h : ∀ d, rsum.L0.Pre d → (∃ d', rsum.L0.Pre d' ∧ μ d' < μ d ∧ rsum.L0.add d' (rsum.L0.F d') = rsum.L0.add d (rsum.L0.F d) ∧ ∀ {R : Type} (kn : AS → Option R) (kx : Exit → AS → Option R), lround Tryz.prog rsum.G rsum.an 0 Tryz.f123 0 (rsum.L0.st d) kn kx = kn (rsum.L0.st d')) ∨ (∀ {R : Type} (kn : AS → Option R) (kx : Exit → AS → Option R), lround Tryz.prog rsum.G rsum.an 0 Tryz.f123 0 (rsum.L0.st d) kn kx = kx (rsum.L0.ex0 (rsum.L0.add d (rsum.L0.F d))).1 (rsum.L0.ex0 (rsum.L0.add d (rsum.L0.F d))).2)) : ∀ d, rsum.L0.Pre d → ∃ n, lrun Tryz.prog rsum.G rsum.an 0 Tryz.f123 0 n (rsum.L0.st d) (fun e s => some (e, s)) = (rsum.L0.out (rsum.L0.add d (rsum.L0.F d))).eval := lrun_one (F := fun d => rsum.L0.add d (rsum.L0.F d)) μ h
theorem rsum.L0.step {R : Type} (p : (List Int)) (h : (List Int)) (i : Int) (n2 : (List Int)) (kn : AS → Option R) (kx : Exit → AS → Option R) : lround Tryz.prog rsum.G rsum.an 0 Tryz.f123 0 (rsum.L0.st (p, h, i, n2)) kn kx =
  sel ((ilt i (((List.length p) : Nat) : Int))) (
   sel (inc (iadd .i64 i (64 : Int)) (((List.length p) : Nat) : Int)) (
   sel (inc i (((Int.toNat (iadd .i64 i (64 : Int))) : Nat) : Int)) (
   obind (rblock.call (h, (cut p (Int.toNat i) ((Int.toNat (iadd .i64 i (64 : Int))) - (Int.toNat i))))) fun x1 =>
   kn (rsum.L0.st (p, x1, (iadd .i64 i (64 : Int)), n2))) none) none) (
   kx (rsum.L0.ex0 (n2, h)).1 (rsum.L0.ex0 (n2, h)).2) := by kernel_rfl
theorem rsum.L1.inj : ∀ d d', rsum.L1.st d = rsum.L1.st d' → d = d' := fun (h_2, i_2, n2_2, n6) (h_2', i_2', n2_2', n6') hEq => by
  have e0 : h_2 = h_2' := d_inj (t := (.slice (.int .u32))) (congrArg (fun s : AS => (s.slot 4)) hEq)
  have e1 : i_2 = i_2' := d_inj (t := (.int .i64)) (congrArg (fun s : AS => (s.slot 7)) hEq)
  have e2 : n2_2 = n2_2' := d_inj (t := (.arr 32 (.int .u8))) (congrArg (fun s : AS => (entC (s.ent (.new 2 0)))) hEq)
  have e3 : n6 = n6' := d_inj (t := (.arr 32 (.int .u8))) (congrArg (fun s : AS => (entC (s.ent (.new 6 0)))) hEq)
  rw [e0, e1, e2, e3]
theorem rsum.L1.run {d : rsum.L1.D} (h : rsum.L1.Pre d) : rsum.L1.call d = some (rsum.L1.add d (rsum.L1.F d)) := LEntry.of_run rsum.L1.inj h
theorem rsum.L1.byRounds (μ : rsum.L1.D → Nat) (h : ∀ d, rsum.L1.Pre d → (∃ d', rsum.L1.Pre d' ∧ μ d' < μ d ∧ rsum.L1.add d' (rsum.L1.F d') = rsum.L1.add d (rsum.L1.F d) ∧ ∀ {R : Type} (kn : AS → Option R) (kx : Exit → AS → Option R), lround Tryz.prog rsum.G rsum.an 0 Tryz.f123 1 (rsum.L1.st d) kn kx = kn (rsum.L1.st d')) ∨ (∀ {R : Type} (kn : AS → Option R) (kx : Exit → AS → Option R), lround Tryz.prog rsum.G rsum.an 0 Tryz.f123 1 (rsum.L1.st d) kn kx = kx (rsum.L1.ex0 (rsum.L1.add d (rsum.L1.F d))).1 (rsum.L1.ex0 (rsum.L1.add d (rsum.L1.F d))).2)) : ∀ d, rsum.L1.Pre d → ∃ n, lrun Tryz.prog rsum.G rsum.an 0 Tryz.f123 1 n (rsum.L1.st d) (fun e s => some (e, s)) = (rsum.L1.out (rsum.L1.add d (rsum.L1.F d))).eval := lrun_one (F := fun d => rsum.L1.add d (rsum.L1.F d)) μ h
theorem rsum.L1.step {R : Type} (h_2 : (List Int)) (i_2 : Int) (n2_2 : (List Int)) (n6 : (List Int)) (kn : AS → Option R) (kx : Exit → AS → Option R) : lround Tryz.prog rsum.G rsum.an 0 Tryz.f123 1 (rsum.L1.st (h_2, i_2, n2_2, n6)) kn kx =
  sel ((ilt i_2 (32 : Int))) (
   sel (inb (iquo .i64 i_2 (4 : Int)) (((List.length h_2) : Nat) : Int)) (
   sel (nonneg (isub .i64 (24 : Int) (imul .i64 (8 : Int) (irem i_2 (4 : Int))))) (
   sel (inb i_2 (32 : Int)) (
   sel (decide ((Int.toNat i_2) < (List.length n6))) (
   sel (decide ((((Int.toNat i_2) * 1) + 0) = (0 + ((Int.toNat i_2) * 1)))) (
   sel (decide ((Int.toNat i_2) < (List.length n6))) (
   kn (rsum.L1.st (h_2, (iadd .i64 i_2 (1 : Int)), n2_2, (List.set n6 (Int.toNat i_2) (icv .u8 (ishr .u32 (nth (.int .u32) h_2 (Int.toNat (iquo .i64 i_2 (4 : Int)))) (isub .i64 (24 : Int) (imul .i64 (8 : Int) (irem i_2 (4 : Int)))))))))) none) none) none) none) none) none) (
   kx (rsum.L1.ex0 (n2_2, n6)).1 (rsum.L1.ex0 (n2_2, n6)).2) := by kernel_rfl
theorem rsum.eq {R : Type} (b : (List Int)) (k : GRes → Option R) : arun Tryz.prog rsum.G rsum.an 0 Tryz.f123 (rsum.st b).1 (rsum.st b).2 k =
  obind (rpadded.call b) fun x1 =>
  obind (rfirsts.call ()) fun x2 =>
  obind (rsum.L0.call (x1, x2, (0 : Int), (List.replicate 32 (0 : Int)))) fun x4 =>
  obind (rsum.L1.call (x4.2, (0 : Int), x4.1, (List.replicate 32 (0 : Int)))) fun x5 =>
  k (rsum.out x5.2) := by kernel_rfl


theorem rsum.L0.ok : ∀ d, rsum.L0.Pre d → ∃ n, lrun Tryz.prog rsum.G rsum.an 0 Tryz.f123 0 n (rsum.L0.st d) (fun e s => some (e, s)) = (rsum.L0.out (rsum.L0.add d (rsum.L0.F d))).eval := by
  refine rsum.L0.byRounds (fun (p, h, i, n2) => p.length - i.toNat) ?_
  rintro ⟨p, h, i, n2⟩ ⟨hm, hb, s, k, rfl, rfl, hk⟩
  have hm : p.length % 64 = 0 := hm
  have hb : p.length ≤ 140737488355328 := hb
  have hk : 64 * k ≤ p.length := hk
  by_cases hlt : 64 * k < p.length
  · left
    have e1 : cut p (64 * k) (64 * k + 64 - 64 * k) = (p.drop (64 * k)).take 64 := by unfold cut; rw [show 64 * k + 64 - 64 * k = 64 by omega]
    have e2 : (p.drop (64 * k)).drop 64 = p.drop (64 * (k + 1)) := by rw [List.drop_drop]; congr 1
    have e3 : (64 * (k + 1) : Nat) = 64 * k + 64 := by omega
    have p1 : rblock.Pre (s.l, (p.drop (64 * k)).take 64) := ⟨⟨s, rfl⟩, by simp; omega⟩
    refine ⟨(p, (mixS s ((p.drop (64 * k)).take 64)).l, ((64 * (k + 1) : Nat) : Int), n2), ⟨hm, hb, _, k + 1, rfl, rfl, by omega⟩, by simp only [Int.toNat_natCast]; omega, ?_, fun kn kx => ?_⟩
    · simp only [rsum.L0.add, rsum.L0.F, toSt_l, Int.toNat_natCast]
      rw [blocks_step s (p.drop (64 * k)) (by simp; omega), e2]
    · rw [rsum.L0.step]
      simp (disch := omega) only [↓N.lt, ↓N.le, ↓N.gt, ↓N.ge, ↓N.eq, ↓N.ne, ↓N.ib, ↓N.ic, ↓N.nn, ↓N.nz, ↓N.dc, ↓N.rm, ↓N.an, ↓N.or, ↓N.no, ↓if_pos, ↓if_neg, ↓sel_true, ↓sel_false, ↓obind_some, if_pos, if_neg, obind_some, N.aNN, N.aNL, N.aLN, N.sNN, N.sNL, N.sLN, N.mNN, N.mNL, N.mLN, N.qNN, N.qNL, N.rNN, N.rNL, N.cN, N.cL, N.tL, Int.toNat_natCast, if_true, if_false, and_self, true_and, and_true, e1, rblock.run p1, rblock.add, rblock.F, toSt_l, e3]
  · right
    intro R kn kx
    rw [rsum.L0.step]
    simp (disch := omega) only [↓N.lt, ↓N.le, ↓N.gt, ↓N.ge, ↓N.eq, ↓N.ne, ↓N.ib, ↓N.ic, ↓N.nn, ↓N.nz, ↓N.dc, ↓N.rm, ↓N.an, ↓N.or, ↓N.no, ↓if_pos, ↓if_neg, ↓sel_true, ↓sel_false, ↓obind_some, if_pos, if_neg, obind_some, N.aNN, N.aNL, N.aLN, N.sNN, N.sNL, N.sLN, N.mNN, N.mNL, N.mLN, N.qNN, N.qNL, N.rNN, N.rNL, N.cN, N.cL, N.tL, Int.toNat_natCast, if_true, if_false, and_self, true_and, and_true, rsum.L0.add, rsum.L0.F, toSt_l]
    rw [blocks_end s _ (by simp; omega)]
theorem rsum.L1.ok : ∀ d, rsum.L1.Pre d → ∃ n, lrun Tryz.prog rsum.G rsum.an 0 Tryz.f123 1 n (rsum.L1.st d) (fun e s => some (e, s)) = (rsum.L1.out (rsum.L1.add d (rsum.L1.F d))).eval := by
  refine rsum.L1.byRounds (fun (h, i, n2, l) => 32 - i.toNat) ?_
  rintro ⟨h, i, n2, l⟩ ⟨h8, hl, k, hk, rfl⟩
  have hl : l.length = 32 := hl
  have h8 : h.length = 8 := h8
  by_cases hlt : k < 32
  · left
    refine ⟨(h, ((k + 1 : Nat) : Int), n2, l.set k (bytAt h k l[k])), ⟨h8, by simpa using hl, k + 1, by omega, rfl⟩, by simp only [Int.toNat_natCast]; omega, ?_, fun kn kx => ?_⟩
    · simp only [rsum.L1.add, rsum.L1.F, Int.toNat_natCast]
      rw [from_step (bytAt h) l k (by omega)]
    · rw [rsum.L1.step]
      simp (disch := omega) only [↓N.lt, ↓N.le, ↓N.gt, ↓N.ge, ↓N.eq, ↓N.ne, ↓N.ib, ↓N.ic, ↓N.nn, ↓N.nz, ↓N.dc, ↓N.rm, ↓N.an, ↓N.or, ↓N.no, ↓if_pos, ↓if_neg, ↓sel_true, ↓sel_false, ↓obind_some, if_pos, if_neg, obind_some, N.aNN, N.aNL, N.aLN, N.sNN, N.sNL, N.sLN, N.mNN, N.mNL, N.mLN, N.qNN, N.qNL, N.rNN, N.rNL, N.cN, N.cL, N.tL, Int.toNat_natCast, if_true, if_false, and_self, true_and, and_true, hl, h8, Nat.mul_one, Nat.add_zero, Nat.zero_add, bytAt]
  · right
    obtain rfl : k = 32 := by omega
    intro R kn kx
    rw [rsum.L1.step]
    simp (disch := omega) only [↓N.lt, ↓N.le, ↓N.gt, ↓N.ge, ↓N.eq, ↓N.ne, ↓N.ib, ↓N.ic, ↓N.nn, ↓N.nz, ↓N.dc, ↓N.rm, ↓N.an, ↓N.or, ↓N.no, ↓if_pos, ↓if_neg, ↓sel_true, ↓sel_false, ↓obind_some, if_pos, if_neg, obind_some, N.aNN, N.aNL, N.aLN, N.sNN, N.sNL, N.sLN, N.mNN, N.mNL, N.mLN, N.qNN, N.qNL, N.rNN, N.rNL, N.cN, N.cL, N.tL, Int.toNat_natCast, if_true, if_false, and_self, true_and, and_true, rsum.L1.add, rsum.L1.F]
    rw [from_end _ _ _ (by omega)]
theorem pad_length (b : List Int) : (pad b).length % 64 = 0 ∧ (pad b).length ≤ b.length + 73 := by
  unfold pad
  simp only [List.length_append, List.length_cons, List.length_replicate, be8_length, padn]
  omega
theorem rsum.ok : ∀ d, rsum.Pre d → arun Tryz.prog rsum.G rsum.an 0 Tryz.f123 (rsum.st d).1 (rsum.st d).2 some = some (rsum.out (rsum.add d (rsum.F d))) := by
  intro b hb
  have hb : b.length ≤ 140737488350000 := hb
  have p1 : rpadded.Pre b := hb
  obtain ⟨h1, h2⟩ := pad_length b
  have p2 : rsum.L0.Pre (pad b, first0.l, 0, List.replicate 32 0) := ⟨h1, by omega, first0, 0, rfl, rfl, by omega⟩
  have p3 : rsum.L1.Pre ((blocks first0 (pad b)).l, 0, List.replicate 32 0, List.replicate 32 0) := ⟨rfl, rfl, 0, by omega, rfl⟩
  rw [rsum.eq]
  simp (disch := omega) only [↓N.lt, ↓N.le, ↓N.gt, ↓N.ge, ↓N.eq, ↓N.ne, ↓N.ib, ↓N.ic, ↓N.nn, ↓N.nz, ↓N.dc, ↓N.rm, ↓N.an, ↓N.or, ↓N.no, ↓if_pos, ↓if_neg, ↓sel_true, ↓sel_false, ↓obind_some, if_pos, if_neg, obind_some, N.aNN, N.aNL, N.aLN, N.sNN, N.sNL, N.sLN, N.mNN, N.mNL, N.mLN, N.qNN, N.qNL, N.rNN, N.rNL, N.cN, N.cL, N.tL, Int.toNat_natCast, if_true, if_false, and_self, true_and, and_true, rpadded.run p1, rpadded.add, rpadded.F, rfirsts.run (d := ()) trivial, rfirsts.add, rfirsts.F, rsum.L0.run p2, rsum.L0.add, rsum.L0.F, toSt_l, Int.toNat_zero, List.drop_zero, rsum.L1.run p3, rsum.L1.add, rsum.L1.F, outb_eq]
  rfl

theorem rsum.inj : ∀ d d', rsum.st d = rsum.st d' → d = d' := fun b b' hEq => by
  have e0 : b = b' := d_inj (t := (.slice (.int .u8))) (congrArg (fun s : List AVal × List Ent => (s.1.getD 0 .undef)) hEq)
  rw [e0]
noncomputable def rsum.E : Entry := Entry.of [some (.slice (.int .u8))] rsum.st rsum.Pre (fun d => rsum.add d (rsum.F d)) rsum.out
noncomputable def rsum.call : rsum.D → Option rsum.X := fun d => rsum.E.run (rsum.st d).1 (rsum.st d).2
theorem rsum.run {d : rsum.D} (h : rsum.Pre d) : rsum.call d = some (rsum.add d (rsum.F d)) := Entry.of_run rsum.inj h
theorem rsum.does : Does Tryz.prog 123 rsum.E := Does.of (by kernel_rfl) (show Sound _ rsum.G from Sound.cons rpadded.does (Sound.cons rfirsts.does (Sound.cons rblock.does (Sound.nil _)))) (by kernel_rfl) (by kernel_rfl) (by kernel_rfl) (LOk.fn 2 (by kernel_rfl) (And.intro (LDo.of (by kernel_rfl) rsum.L0.ok) (And.intro (LDo.of (by kernel_rfl) rsum.L1.ok) trivial))) rsum.ok

/-! ### corsned/corsnedref04.Long -/
abbrev rlong.D := Int
def rlong.st : rlong.D → List AVal × List Ent := fun n => ([.d (.int .u64) n], [])
abbrev rlong.Y := Nat × (List Int)
abbrev rlong.X := Nat × (List Int)
def rlong.out : rlong.X → GRes := fun x => ⟨.sref (.new 0 0) 0 [] 0 0 x.1, [], [.obj 0 false (.vec 5 (.int .u8) x.2)]⟩
def rlong.add : rlong.D → rlong.Y → rlong.X := fun n y => y


def rlong.Pre : rlong.D → Prop := fun n => 0 ≤ n ∧ n < 18446744073709551616
def rlong.F : rlong.D → rlong.Y := fun n => (8, be8 n)

noncomputable def rlong.G : Gam := gnil
noncomputable def rlong.an : Ann := {
  objs := [],
  loops := fun r => bif Nat.beq r 3 then { keep := [0, 3, 4], sites := [15], frz := [], data := [], owns := [] } else { keep := [], sites := [], frz := [], data := [], owns := [] },
  outs := fun r b => bif Nat.beq r 3 then (bif b then { keep := [2], sites := [15], frz := [], data := [], owns := [] } else { keep := [3], sites := [15], frz := [], data := [], owns := [] }) else { keep := [], sites := [], frz := [], data := [], owns := [] },
  sums := fun r => none,
  owns := [⟨2, [], 15, 25⟩],
  trim := [],
  res := [] }
theorem rlong.eq {R : Type} (n : Int) (k : GRes → Option R) : arun Tryz.prog rlong.G rlong.an 10 Tryz.f122 (rlong.st n).1 (rlong.st n).2 k =
  k (rlong.out (8, [(icv .u8 (ishr .u64 n (56 : Int))), (icv .u8 (ishr .u64 n (48 : Int))), (icv .u8 (ishr .u64 n (40 : Int))), (icv .u8 (ishr .u64 n (32 : Int))), (icv .u8 (ishr .u64 n (24 : Int))), (icv .u8 (ishr .u64 n (16 : Int))), (icv .u8 (ishr .u64 n (8 : Int))), (icv .u8 (ishr .u64 n (0 : Int)))])) := by kernel_rfl


theorem rlong.ok : ∀ d, rlong.Pre d → arun Tryz.prog rlong.G rlong.an 10 Tryz.f122 (rlong.st d).1 (rlong.st d).2 some = some (rlong.out (rlong.add d (rlong.F d))) := by
  intro n _
  have e : ∀ k : Nat, k ≤ 64 → icv .u8 (ishr .u64 n (k : Int)) = n / 2 ^ k % 256 := fun k hk => u64_byte n k hk
  rw [rlong.eq]
  have e56 : icv .u8 (ishr .u64 n 56) = n / 2 ^ 56 % 256 := e 56 (by omega)
  have e48 : icv .u8 (ishr .u64 n 48) = n / 2 ^ 48 % 256 := e 48 (by omega)
  have e40 : icv .u8 (ishr .u64 n 40) = n / 2 ^ 40 % 256 := e 40 (by omega)
  have e32 : icv .u8 (ishr .u64 n 32) = n / 2 ^ 32 % 256 := e 32 (by omega)
  have e24 : icv .u8 (ishr .u64 n 24) = n / 2 ^ 24 % 256 := e 24 (by omega)
  have e16 : icv .u8 (ishr .u64 n 16) = n / 2 ^ 16 % 256 := e 16 (by omega)
  have e8 : icv .u8 (ishr .u64 n 8) = n / 2 ^ 8 % 256 := e 8 (by omega)
  have e0 := e 0 (by omega)
  rw [e56, e48, e40, e32, e24, e16, e8]
  have e0 : icv .u8 (ishr .u64 n 0) = n % 256 := by rw [show (0 : Int) = ((0 : Nat) : Int) from rfl, e0]; simp
  rw [e0]
  rfl

theorem rlong.inj : ∀ d d', rlong.st d = rlong.st d' → d = d' := fun n n' hEq => by
  have e0 : n = n' := d_inj (t := (.int .u64)) (congrArg (fun s : List AVal × List Ent => (s.1.getD 0 .undef)) hEq)
  rw [e0]
noncomputable def rlong.E : Entry := Entry.of [some (.int .u64)] rlong.st rlong.Pre (fun d => rlong.add d (rlong.F d)) rlong.out
noncomputable def rlong.call : rlong.D → Option rlong.X := fun d => rlong.E.run (rlong.st d).1 (rlong.st d).2
theorem rlong.run {d : rlong.D} (h : rlong.Pre d) : rlong.call d = some (rlong.add d (rlong.F d)) := Entry.of_run rlong.inj h
theorem rlong.does : Does Tryz.prog 122 rlong.E := Does.of (by kernel_rfl) (show Sound _ rlong.G from Sound.nil _) (by kernel_rfl) (by kernel_rfl) (by kernel_rfl) (LOk.fn 1 (by kernel_rfl) (And.intro (LDo.none (by kernel_rfl)) trivial)) rlong.ok

/-! ### corsned/corsnedref04.Tag -/
abbrev rtag.L0.D := (List (List Int)) × Nat × Int × (List Int) × (List Int)
def rtag.L0.st : rtag.L0.D → AS := fun (parts_2, bL, i, n4, n11) => ⟨([.undef, .d (.slice (.slice (.int .u8))) parts_2, .undef, .undef, .ptr (.new 4 0) 0 [] 0, .sref (.new 11 0) 0 [] 0 0 bL, .d (.int .i64) i] ++ undN 32 []), [], (nilN 4 ([[.obj 0 false (.d (.arr 32 (.int .u8)) n4)]] ++ nilN 6 ([[.obj 0 false (.vec 5 (.int .u8) n11)]] ++ nilN 27 [])))⟩
abbrev rtag.L0.Y0 := Nat × (List Int)  -- bL, n11
abbrev rtag.L0.X0 := ((List Int)) × (Nat × (List Int))
def rtag.L0.ex0 : rtag.L0.X0 → Exit × AS := fun x => (.exit 0, ⟨(undN 4 ([.ptr (.new 4 0) 0 [] 0, .sref (.new 11 0) 0 [] 0 0 x.2.1] ++ undN 33 [])), [], (nilN 4 ([[.obj 0 false (.d (.arr 32 (.int .u8)) x.1)]] ++ nilN 6 ([[.obj 0 false (.vec 5 (.int .u8) x.2.2)]] ++ nilN 27 [])))⟩)
abbrev rtag.L0.X := rtag.L0.X0
abbrev rtag.L0.Y := rtag.L0.Y0
def rtag.L0.out : rtag.L0.X → Out (Exit × AS) := fun x => .ok (rtag.L0.ex0 x)
def rtag.L0.add : rtag.L0.D → rtag.L0.Y → rtag.L0.X := fun (parts_2, bL, i, n4, n11) y => (n4, y)
abbrev rtag.D := ByteArray × (List (List Int))
def rtag.st : rtag.D → List AVal × List Ent := fun (name, parts) => ([.d .str name, .d (.slice (.slice (.int .u8))) parts], [])
abbrev rtag.Y := (List Int)
abbrev rtag.X := (List Int)
def rtag.out : rtag.X → GRes := fun x => ⟨.d (.arr 32 (.int .u8)) x, [], []⟩
def rtag.add : rtag.D → rtag.Y → rtag.X := fun (name, parts) y => y


def rtag.L0.Pre : rtag.L0.D → Prop := fun (ps, m, i, n4, l) => m = l.length ∧ ∃ k : Nat, k ≤ ps.length ∧ ps.length ≤ 140737488350000 ∧ i = k ∧ l.length + (tagp (ps.drop k)).length ≤ 140737488350000
def rtag.L0.F : rtag.L0.D → rtag.L0.Y := fun (ps, m, i, n4, l) => (l.length + (tagp (ps.drop i.toNat)).length, l ++ tagp (ps.drop i.toNat))
def rtag.Pre : rtag.D → Prop := fun (name, ps) => (tagb (bytesOfStr name) ps).length ≤ 140737488350000
def rtag.F : rtag.D → rtag.Y := fun (name, ps) => tag (bytesOfStr name) ps

noncomputable def rtag.G : Gam := gcons 122 anyArgs rlong.E (gcons 123 anyArgs rsum.E (gnil))
noncomputable def rtag.L0.E : LEntry := LEntry.of rtag.L0.st rtag.L0.Pre (fun d => rtag.L0.add d (rtag.L0.F d)) rtag.L0.out
noncomputable def rtag.L0.call : rtag.L0.D → Option rtag.L0.X := fun d => rtag.L0.E.run (rtag.L0.st d)
noncomputable def rtag.an : Ann := {
  objs := [],
  loops := fun r => bif Nat.beq r 3 then { keep := [1, 4, 5, 6], sites := [4, 11], frz := [], data := [], owns := [⟨5, [], 11, 25⟩] } else { keep := [], sites := [], frz := [], data := [], owns := [] },
  outs := fun r b => bif Nat.beq r 3 then (bif b then { keep := [4], sites := [], frz := [], data := [], owns := [] } else { keep := [4, 5], sites := [4, 11], frz := [], data := [], owns := [] }) else { keep := [], sites := [], frz := [], data := [], owns := [] },
  sums := fun r => bif Nat.beq r 3 then some rtag.L0.E else none,
  owns := [],
  trim := [],
  res := [] }
theorem rtag.L0.inj : ∀ d d', rtag.L0.st d = rtag.L0.st d' → d = d' := fun (parts_2, bL, i, n4, n11) (parts_2', bL', i', n4', n11') hEq => by
  have e0 : parts_2 = parts_2' := d_inj (t := (.slice (.slice (.int .u8)))) (congrArg (fun s : AS => (s.slot 1)) hEq)
  have e1 : bL = bL' := congrArg (fun s : AS => srefLen (s.slot 5)) hEq
  have e2 : i = i' := d_inj (t := (.int .i64)) (congrArg (fun s : AS => (s.slot 6)) hEq)
  have e3 : n4 = n4' := d_inj (t := (.arr 32 (.int .u8))) (congrArg (fun s : AS => (entC (s.ent (.new 4 0)))) hEq)
  have e4 : n11 = n11' := vec_inj (e := 5) (t := (.int .u8)) (congrArg (fun s : AS => (entC (s.ent (.new 11 0)))) hEq)
  rw [e0, e1, e2, e3, e4]
theorem rtag.L0.run {d : rtag.L0.D} (h : rtag.L0.Pre d) : rtag.L0.call d = some (rtag.L0.add d (rtag.L0.F d)) := LEntry.of_run rtag.L0.inj h
theorem rtag.L0.byRounds (μ : rtag.L0.D → Nat) (h : ∀ d, rtag.L0.Pre d → (∃ d', rtag.L0.Pre d' ∧ μ d' < μ d ∧ rtag.L0.add d' (rtag.L0.F d') = rtag.L0.add d (rtag.L0.F d) ∧ ∀ {R : Type} (kn : AS → Option R) (kx : Exit → AS → Option R), lround Tryz.prog rtag.G rtag.an 0 Tryz.f73 0 (rtag.L0.st d) kn kx = kn (rtag.L0.st d')) ∨ (∀ {R : Type} (kn : AS → Option R) (kx : Exit → AS → Option R), lround Tryz.prog rtag.G rtag.an 0 Tryz.f73 0 (rtag.L0.st d) kn kx = kx (rtag.L0.ex0 (rtag.L0.add d (rtag.L0.F d))).1 (rtag.L0.ex0 (rtag.L0.add d (rtag.L0.F d))).2)) : ∀ d, rtag.L0.Pre d → ∃ n, lrun Tryz.prog rtag.G rtag.an 0 Tryz.f73 0 n (rtag.L0.st d) (fun e s => some (e, s)) = (rtag.L0.out (rtag.L0.add d (rtag.L0.F d))).eval := lrun_one (F := fun d => rtag.L0.add d (rtag.L0.F d)) μ h
theorem rtag.L0.step {R : Type} (parts_2 : (List (List Int))) (bL : Nat) (i : Int) (n4 : (List Int)) (n11 : (List Int)) (kn : AS → Option R) (kx : Exit → AS → Option R) : lround Tryz.prog rtag.G rtag.an 0 Tryz.f73 0 (rtag.L0.st (parts_2, bL, i, n4, n11)) kn kx =
  sel ((ilt i (((List.length parts_2) : Nat) : Int))) (
   sel (inb i (((List.length parts_2) : Nat) : Int)) (
   obind (rlong.call (icv .u64 (((List.length (nth (.slice (.int .u8)) parts_2 (Int.toNat i))) : Nat) : Int))) fun x1 =>
   sel (decide (0 = 0 ∧ (0 + x1.1) ≤ (List.length x1.2))) (
   sel (decide (bL ≤ (List.length n11))) (
   sel (roomA (bL + (List.length (cut x1.2 0 x1.1))) 1) (
   sel (inb i (((List.length parts_2) : Nat) : Int)) (
   sel (decide ((bL + (List.length (cut x1.2 0 x1.1))) ≤ (List.length ((List.take bL n11) ++ (cut x1.2 0 x1.1))))) (
   sel (roomA ((bL + (List.length (cut x1.2 0 x1.1))) + (List.length (nth (.slice (.int .u8)) parts_2 (Int.toNat i)))) 1) (
   kn (rtag.L0.st (parts_2, ((bL + (List.length (cut x1.2 0 x1.1))) + (List.length (nth (.slice (.int .u8)) parts_2 (Int.toNat i)))), (iadd .i64 i (1 : Int)), n4, ((List.take (bL + (List.length (cut x1.2 0 x1.1))) ((List.take bL n11) ++ (cut x1.2 0 x1.1))) ++ (nth (.slice (.int .u8)) parts_2 (Int.toNat i)))))) none) none) none) none) none) none) none) (
   kx (rtag.L0.ex0 (n4, (bL, n11))).1 (rtag.L0.ex0 (n4, (bL, n11))).2) := by kernel_rfl
theorem rtag.eq {R : Type} (name : ByteArray) (parts : (List (List Int))) (k : GRes → Option R) : arun Tryz.prog rtag.G rtag.an 0 Tryz.f73 (rtag.st (name, parts)).1 (rtag.st (name, parts)).2 k =
  obind (rlong.call (icv .u64 (((ByteArray.size name) : Nat) : Int))) fun x1 =>
  sel (decide (x1.1 ≤ (List.length x1.2))) (
  sel (roomA (x1.1 + (List.length (bytesOfStr name))) 1) (
  obind (rtag.L0.call (parts, (x1.1 + (List.length (bytesOfStr name))), (0 : Int), (List.replicate 32 (0 : Int)), ((List.take x1.1 x1.2) ++ (bytesOfStr name)))) fun x4 =>
  sel (decide (0 = 0 ∧ (0 + x4.2.1) ≤ (List.length x4.2.2))) (
  obind (rsum.call (cut x4.2.2 0 x4.2.1)) fun x5 =>
  k (rtag.out x5)) none) none) none := by kernel_rfl


theorem u64_nat {n : Nat} (h : n < 18446744073709551616) : icv .u64 ((n : Nat) : Int) = n := by rw [icv_u64, vw_ofInt]; omega
theorem rlong.at {n : Nat} (h : n < 18446744073709551616) : rlong.call (n : Int) = some (8, be8 (n : Int)) := rlong.run (d := (n : Int)) (show 0 ≤ (n : Int) ∧ (n : Int) < 18446744073709551616 from ⟨by omega, by omega⟩)
theorem cut0 {l : List Int} {n : Nat} (h : l.length = n) : cut l 0 n = l := by unfold cut; rw [List.drop_zero, List.take_of_length_le (by omega)]
theorem rtag.L0.ok : ∀ d, rtag.L0.Pre d → ∃ n, lrun Tryz.prog rtag.G rtag.an 0 Tryz.f73 0 n (rtag.L0.st d) (fun e s => some (e, s)) = (rtag.L0.out (rtag.L0.add d (rtag.L0.F d))).eval := by
  refine rtag.L0.byRounds (fun (ps, m, i, n4, l) => ps.length - i.toNat) ?_
  rintro ⟨ps, m, i, n4, l⟩ ⟨rfl, k, hk, hpl, rfl, hl⟩
  have hk : k ≤ ps.length := hk
  have hpl : ps.length ≤ 140737488350000 := hpl
  have hl : l.length + (tagp (ps.drop k)).length ≤ 140737488350000 := hl
  by_cases h : k < ps.length
  · left
    have ht := tagp_drop ps k h
    have hlen : (tagp (ps.drop k)).length = 8 + ps[k].length + (tagp (ps.drop (k + 1))).length := by rw [ht]; simp only [List.length_append, be8_length]
    have hn : nth (.slice (.int .u8)) ps k = ps[k] := nth_lt (t := .slice (.int .u8)) h
    have hlb : (l ++ be8 (ps[k].length : Int)).length = l.length + 8 := by simp [be8_length]
    refine ⟨(ps, (l ++ be8 ps[k].length ++ ps[k]).length, ((k + 1 : Nat) : Int), n4, l ++ be8 ps[k].length ++ ps[k]), ⟨rfl, k + 1, by omega, hpl, rfl, ?_⟩, by simp only [Int.toNat_natCast]; omega, ?_, fun kn kx => ?_⟩
    · simp only [List.length_append, be8_length]; omega
    · simp only [rtag.L0.add, rtag.L0.F, Int.toNat_natCast, ht, List.append_assoc]
      simp only [List.length_append, be8_length, Nat.add_assoc]
    · have c8 : cut (be8 (ps[k].length : Int)) 0 8 = be8 (ps[k].length : Int) := cut0 (be8_length _)
      have h64 : ps[k].length < 18446744073709551616 := by omega
      rw [rtag.L0.step]
      simp (disch := omega) only [↓N.lt, ↓N.le, ↓N.gt, ↓N.ge, ↓N.eq, ↓N.ne, ↓N.ib, ↓N.ic, ↓N.nn, ↓N.nz, ↓N.dc, ↓N.rm, ↓N.an, ↓N.or, ↓N.no, ↓if_pos, ↓if_neg, ↓sel_true, ↓sel_false, ↓obind_some, if_pos, if_neg, obind_some, N.aNN, N.aNL, N.aLN, N.sNN, N.sNL, N.sLN, N.mNN, N.mNL, N.mLN, N.qNN, N.qNL, N.rNN, N.rNL, N.cN, N.cL, N.tL, Int.toNat_natCast, if_true, if_false, and_self, true_and, and_true, hn, u64_nat h64, rlong.at h64, be8_length, c8, List.take_length, hlb, Nat.zero_add, Nat.le_refl, and_self, if_true]
      rw [List.take_of_length_le (by rw [hlb]; omega)]
      simp only [List.length_append, be8_length, Nat.add_assoc]
  · right
    obtain rfl : k = ps.length := by omega
    intro R kn kx
    rw [rtag.L0.step]
    simp (disch := omega) only [↓N.lt, ↓N.le, ↓N.gt, ↓N.ge, ↓N.eq, ↓N.ne, ↓N.ib, ↓N.ic, ↓N.nn, ↓N.nz, ↓N.dc, ↓N.rm, ↓N.an, ↓N.or, ↓N.no, ↓if_pos, ↓if_neg, ↓sel_true, ↓sel_false, ↓obind_some, if_pos, if_neg, obind_some, N.aNN, N.aNL, N.aLN, N.sNN, N.sNL, N.sLN, N.mNN, N.mNL, N.mLN, N.qNN, N.qNL, N.rNN, N.rNL, N.cN, N.cL, N.tL, Int.toNat_natCast, if_true, if_false, and_self, true_and, and_true, rtag.L0.add, rtag.L0.F, List.drop_length]
    simp [tagp]
theorem rtag.ok : ∀ d, rtag.Pre d → arun Tryz.prog rtag.G rtag.an 0 Tryz.f73 (rtag.st d).1 (rtag.st d).2 some = some (rtag.out (rtag.add d (rtag.F d))) := by
  rintro ⟨name, ps⟩ hp
  have hp : (be8 (bytesOfStr name).length ++ bytesOfStr name ++ tagp ps).length ≤ 140737488350000 := hp
  have hl : (be8 (bytesOfStr name).length ++ bytesOfStr name ++ tagp ps).length = 8 + (bytesOfStr name).length + (tagp ps).length := by simp only [List.length_append, be8_length]
  have hpl := tagp_len ps
  have hsz : name.size = (bytesOfStr name).length := by rw [bytesOfStr_length]
  have h64 : (bytesOfStr name).length < 18446744073709551616 := by omega
  have p2 : rtag.L0.Pre (ps, 8 + (bytesOfStr name).length, 0, List.replicate 32 0, be8 ((bytesOfStr name).length : Int) ++ bytesOfStr name) := by
    refine ⟨by simp only [List.length_append, be8_length], 0, Nat.zero_le _, by omega, rfl, ?_⟩
    rw [List.drop_zero]
    simp only [List.length_append, be8_length]
    omega
  rw [rtag.eq, hsz]
  simp (disch := omega) only [↓N.lt, ↓N.le, ↓N.gt, ↓N.ge, ↓N.eq, ↓N.ne, ↓N.ib, ↓N.ic, ↓N.nn, ↓N.nz, ↓N.dc, ↓N.rm, ↓N.an, ↓N.or, ↓N.no, ↓if_pos, ↓if_neg, ↓sel_true, ↓sel_false, ↓obind_some, if_pos, if_neg, obind_some, N.aNN, N.aNL, N.aLN, N.sNN, N.sNL, N.sLN, N.mNN, N.mNL, N.mLN, N.qNN, N.qNL, N.rNN, N.rNL, N.cN, N.cL, N.tL, Int.toNat_natCast, if_true, if_false, and_self, true_and, and_true, u64_nat h64, rlong.at h64, be8_length, List.take_of_length_le (Nat.le_of_eq (be8_length _)), rtag.L0.run p2, rtag.L0.add, rtag.L0.F, Int.toNat_zero, List.drop_zero, Nat.zero_add]
  have hcut : cut (be8 ((bytesOfStr name).length : Int) ++ bytesOfStr name ++ tagp ps) 0 ((be8 ((bytesOfStr name).length : Int) ++ bytesOfStr name).length + (tagp ps).length) = tagb (bytesOfStr name) ps := cut0 (by simp only [List.length_append])
  have p3 : rsum.Pre (tagb (bytesOfStr name) ps) := hp
  rw [if_pos (by simp only [List.length_append]; omega), hcut, rsum.run p3]
  rfl

theorem rtag.inj : ∀ d d', rtag.st d = rtag.st d' → d = d' := fun (name, parts) (name', parts') hEq => by
  have e0 : name = name' := d_inj (t := .str) (congrArg (fun s : List AVal × List Ent => (s.1.getD 0 .undef)) hEq)
  have e1 : parts = parts' := d_inj (t := (.slice (.slice (.int .u8)))) (congrArg (fun s : List AVal × List Ent => (s.1.getD 1 .undef)) hEq)
  rw [e0, e1]
noncomputable def rtag.E : Entry := Entry.of [some .str, some (.slice (.slice (.int .u8)))] rtag.st rtag.Pre (fun d => rtag.add d (rtag.F d)) rtag.out
noncomputable def rtag.call : rtag.D → Option rtag.X := fun d => rtag.E.run (rtag.st d).1 (rtag.st d).2
theorem rtag.run {d : rtag.D} (h : rtag.Pre d) : rtag.call d = some (rtag.add d (rtag.F d)) := Entry.of_run rtag.inj h
theorem rtag.does : Does Tryz.prog 73 rtag.E := Does.of (by kernel_rfl) (show Sound _ rtag.G from Sound.cons rlong.does (Sound.cons rsum.does (Sound.nil _))) (by kernel_rfl) (by kernel_rfl) (by kernel_rfl) (LOk.fn 1 (by kernel_rfl) (And.intro (LDo.of (by kernel_rfl) rtag.L0.ok) trivial)) rtag.ok

end Go.Ab
namespace Go.Ab
open Go.Proofs
set_option maxRecDepth 100000
set_option linter.unusedVariables false
set_option linter.unusedSimpArgs false



theorem u64_wrap {n : Int} (h1 : 0 ≤ n) (h2 : n < 18446744073709551616) : IntKind.u64.wrap n = n := by
  rw [wrap_u64, vw_ofInt]; omega
theorem u64_mod (n : Int) : IntKind.u64.wrap n = n % 18446744073709551616 := by
  rw [wrap_u64, vw_ofInt]; rfl
theorem iadd_um (x y : Int) : iadd .u64 x y = (x + y) % 18446744073709551616 := u64_mod _
theorem isub_um (x y : Int) : isub .u64 x y = (x - y) % 18446744073709551616 := u64_mod _
theorem imul_um (x y : Int) : imul .u64 x y = (x * y) % 18446744073709551616 := u64_mod _
theorem icv_um (x : Int) : icv .u64 x = x % 18446744073709551616 := u64_mod _
theorem and32 {x : Int} (h : 0 ≤ x) (h2 : x < 18446744073709551616) : bitop .and .u64 x 4294967295 = x % 4294967296 := by
  obtain ⟨n, rfl⟩ : ∃ n : Nat, x = n := ⟨x.toNat, by omega⟩
  have e : (BitVec.ofInt 64 (n : Int) &&& BitVec.ofInt 64 4294967295).toNat = n % 4294967296 := by
    rw [BitVec.toNat_and]
    have a : (BitVec.ofInt 64 (n : Int)).toNat = n := by rw [BitVec.ofInt_natCast, BitVec.toNat_ofNat]; omega
    have b : (BitVec.ofInt 64 4294967295).toNat = 2 ^ 32 - 1 := by decide
    rw [a, b, Nat.and_two_pow_sub_one_eq_mod]
  show IntKind.u64.wrap ((BitVec.ofInt 64 (n : Int) &&& BitVec.ofInt 64 4294967295).toNat : Int) = _
  rw [e, u64_wrap (by omega) (by omega)]; omega
theorem and1 {x : Int} (h : 0 ≤ x) (h2 : x < 18446744073709551616) : bitop .and .u64 x 1 = x % 2 := by
  obtain ⟨n, rfl⟩ : ∃ n : Nat, x = n := ⟨x.toNat, by omega⟩
  have e : (BitVec.ofInt 64 (n : Int) &&& BitVec.ofInt 64 1).toNat = n % 2 := by
    rw [BitVec.toNat_and]
    have a : (BitVec.ofInt 64 (n : Int)).toNat = n := by rw [BitVec.ofInt_natCast, BitVec.toNat_ofNat]; omega
    have b : (BitVec.ofInt 64 1).toNat = 2 ^ 1 - 1 := by decide
    rw [a, b, Nat.and_two_pow_sub_one_eq_mod]
  show IntKind.u64.wrap ((BitVec.ofInt 64 (n : Int) &&& BitVec.ofInt 64 1).toNat : Int) = _
  rw [e, u64_wrap (by omega) (by omega)]; omega
theorem shr_u64 {x k : Int} (n : Nat) (hk : k = n) (hn : n ≤ 64) : ishr .u64 x k = x / 2 ^ n := by
  subst hk
  rw [ishr]
  have e : min (Int.toNat (n : Int)) IntKind.u64.bits = n := by simp only [IntKind.bits]; omega
  rw [e, Int.fdiv_eq_ediv_of_nonneg _ (Int.le_of_lt (Int.pow_pos (by omega)))]
theorem shl_u64 {x k : Int} (n : Nat) (hk : k = n) (hn : n ≤ 64) : ishl .u64 x k = x * 2 ^ n % 18446744073709551616 := by
  subst hk
  rw [ishl, u64_mod]
  have e : min (Int.toNat (n : Int)) IntKind.u64.bits = n := by simp only [IntKind.bits]; omega
  rw [e]
/-- Of numbers whose bits lie apart. -/
theorem or_apart {x y : Int} (k : Nat) (m : Int) (hm : m = 2 ^ k) (hx : x % m = 0) (h0 : 0 ≤ x) (h1 : x < 18446744073709551616) (hy : 0 ≤ y) (hy2 : y < m) (h2 : x + y < 18446744073709551616) : bitop .or .u64 x y = x + y := by
  subst hm
  obtain ⟨n, rfl⟩ : ∃ n : Nat, x = n := ⟨x.toNat, by omega⟩
  obtain ⟨j, rfl⟩ : ∃ j : Nat, y = j := ⟨y.toNat, by omega⟩
  have hx : n % 2 ^ k = 0 := by
    have : ((n % 2 ^ k : Nat) : Int) = 0 := by rw [Int.natCast_emod]; simpa using hx
    omega
  have hj : j < 2 ^ k := by
    have : ((j : Nat) : Int) < ((2 ^ k : Nat) : Int) := by simpa using hy2
    omega
  obtain ⟨q, rfl⟩ : ∃ q, n = 2 ^ k * q := ⟨n / 2 ^ k, by have := Nat.div_add_mod n (2 ^ k); omega⟩
  have e : (BitVec.ofInt 64 ((2 ^ k * q : Nat) : Int) ||| BitVec.ofInt 64 (j : Int)).toNat = 2 ^ k * q + j := by
    rw [BitVec.toNat_or]
    have a : (BitVec.ofInt 64 ((2 ^ k * q : Nat) : Int)).toNat = 2 ^ k * q := by rw [BitVec.ofInt_natCast, BitVec.toNat_ofNat]; exact Nat.mod_eq_of_lt (by omega)
    have b : (BitVec.ofInt 64 (j : Int)).toNat = j := by rw [BitVec.ofInt_natCast, BitVec.toNat_ofNat]; exact Nat.mod_eq_of_lt (by omega)
    rw [a, b, Nat.two_pow_add_eq_or_of_lt hj]
  show IntKind.u64.wrap ((BitVec.ofInt 64 ((2 ^ k * q : Nat) : Int) ||| BitVec.ofInt 64 (j : Int)).toNat : Int) = _
  rw [e, u64_wrap (by omega) (by omega)]; omega
theorem iquo_nn {x y : Int} (h : 0 ≤ x) (h1 : 0 ≤ y) (h2 : x < 18446744073709551616) : iquo .u64 x y = x / y := by
  rw [iquo, Int.tdiv_eq_ediv_of_nonneg h]
  exact u64_wrap (Int.ediv_nonneg h h1) (Int.lt_of_le_of_lt (Int.ediv_le_self _ h) h2)
theorem irem_nn {x y : Int} (h : 0 ≤ x) : irem x y = x % y := by rw [irem, Int.tmod_eq_emod_of_nonneg h]
theorem k1 {e u w r q : Int} (he : e = 42260 ∨ e = 42264 ∨ e = 42272) (hu : 0 ≤ u) (hu2 : u < 18446744073709551616 - e) (hw : 0 ≤ w) (hw2 : w < 4294967296) (hr : 0 ≤ r) (hr2 : r < 4294967296)
    (hq : q * 4294967295 + r = u) (hQ : (u * 4294967296 + w) / (18446744073709551616 - e) ≤ q) :
    (4294967296 ≤ q → (u * 4294967296 + w) / (18446744073709551616 - e) ≤ q - 1) ∧
    (q < 4294967296 → 4294967296 * r + w < q * (4294967296 - e) → (u * 4294967296 + w) / (18446744073709551616 - e) ≤ q - 1) ∧
    (q < 4294967296 → q * (4294967296 - e) ≤ 4294967296 * r + w → (u * 4294967296 + w) / (18446744073709551616 - e) = q) ∧
    (4294967296 ≤ r + 4294967295 → (u * 4294967296 + w) / (18446744073709551616 - e) ≤ q - 1 → (u * 4294967296 + w) / (18446744073709551616 - e) = q - 1) ∧ 0 ≤ (u * 4294967296 + w) / (18446744073709551616 - e) ∧ q ≤ 4294967297 := by
  rcases he with rfl | rfl | rfl
  · refine ⟨?_, ?_, ?_, ?_, ?_, ?_⟩ <;> omega
  · refine ⟨?_, ?_, ?_, ?_, ?_, ?_⟩ <;> omega
  · refine ⟨?_, ?_, ?_, ?_, ?_, ?_⟩ <;> omega
/-- The first guess. -/
theorem k0 {e u w : Int} (he : e = 42260 ∨ e = 42264 ∨ e = 42272) (hu : 0 ≤ u) (hu2 : u < 18446744073709551616 - e) (hw : 0 ≤ w) (hw2 : w < 4294967296) :
    (u * 4294967296 + w) / (18446744073709551616 - e) ≤ u / 4294967295 ∧ 0 ≤ u - u / 4294967295 * 4294967295 ∧ u - u / 4294967295 * 4294967295 < 4294967296 ∧
    (u * 4294967296 + w) - (u * 4294967296 + w) / (18446744073709551616 - e) * (18446744073709551616 - e) = (u * 4294967296 + w) % (18446744073709551616 - e) ∧
    0 ≤ (u * 4294967296 + w) % (18446744073709551616 - e) ∧ (u * 4294967296 + w) % (18446744073709551616 - e) < 18446744073709551616 - e ∧
    0 ≤ (u * 4294967296 + w) / (18446744073709551616 - e) ∧ (u * 4294967296 + w) / (18446744073709551616 - e) < 4294967296 := by
  rcases he with rfl | rfl | rfl
  · refine ⟨?_, ?_, ?_, ?_, ?_, ?_, ?_, ?_⟩ <;> omega
  · refine ⟨?_, ?_, ?_, ?_, ?_, ?_, ?_, ?_⟩ <;> omega
  · refine ⟨?_, ?_, ?_, ?_, ?_, ?_, ?_, ?_⟩ <;> omega
/-- Two digits, one behind the other. -/
theorem kd (Y u w1 w0 : Int) (hY : 0 < Y) (h0 : 0 ≤ w0) (h1 : w0 < 4294967296) :
    ((u * 4294967296 + w1) * 4294967296 + w0) / Y = (u * 4294967296 + w1) / Y * 4294967296 + ((u * 4294967296 + w1) % Y * 4294967296 + w0) / Y ∧
    ((u * 4294967296 + w1) * 4294967296 + w0) % Y = ((u * 4294967296 + w1) % Y * 4294967296 + w0) % Y := by
  generalize u * 4294967296 + w1 = n
  have e : n * 4294967296 + w0 = (n % Y * 4294967296 + w0) + Y * (n / Y * 4294967296) := by
    have := Int.emod_add_mul_ediv n Y
    have h : Y * (n / Y * 4294967296) = (Y * (n / Y)) * 4294967296 := by rw [Int.mul_assoc]
    rw [h]; omega
  rw [e, Int.add_mul_ediv_left _ _ (by omega), Int.add_mul_emod_self_left]
  exact ⟨by omega, rfl⟩

/-! ### math/bits.Len64 -/
abbrev len64.D := Int
def len64.st : len64.D → List AVal × List Ent := fun x => ([.d (.int .u64) x], [])
abbrev len64.Y := Int
abbrev len64.X := Int
def len64.out : len64.X → GRes := fun x => ⟨.d (.int .i64) x, [], []⟩
def len64.add : len64.D → len64.Y → len64.X := fun x y => y


def isY (y : Int) : Prop := y = 4611686018427377339 ∨ y = 2305843009213688669 ∨ y = 2305843009213688668
def len64.Pre : len64.D → Prop := isY
def len64.F : len64.D → len64.Y := fun y => if y = 4611686018427377339 then 62 else 61

noncomputable def len64.G : Gam := gnil
noncomputable def len64.an : Ann := {
  objs := [],
  loops := fun r => { keep := [], sites := [], frz := [], data := [], owns := [] },
  outs := fun r b => { keep := [], sites := [], frz := [], data := [], owns := [] },
  sums := fun r => none,
  owns := [],
  trim := [],
  res := [] }
theorem len64.eq {R : Type} (x : Int) (k : GRes → Option R) : arun Tryz.prog len64.G len64.an 0 Tryz.f183 (len64.st x).1 (len64.st x).2 k =
  sel ((ige x (4294967296 : Int))) (
   sel ((ige (ishr .u64 x (32 : Int)) (65536 : Int))) (
    sel ((ige (ishr .u64 (ishr .u64 x (32 : Int)) (16 : Int)) (256 : Int))) (
     sel (inb (icv .u8 (ishr .u64 (ishr .u64 (ishr .u64 x (32 : Int)) (16 : Int)) (8 : Int))) (256 : Int)) (
     k (len64.out (iadd .i64 (56 : Int) (icv .i64 (sidx (⟨#[0, 1, 2, 2, 3, 3, 3, 3, 4, 4, 4, 4, 4, 4, 4, 4, 5, 5, 5, 5, 5, 5, 5, 5, 5, 5, 5, 5, 5, 5, 5, 5, 6, 6, 6, 6, 6, 6, 6, 6, 6, 6, 6, 6, 6, 6, 6, 6, 6, 6, 6, 6, 6, 6, 6, 6, 6, 6, 6, 6, 6, 6, 6, 6, 7, 7, 7, 7, 7, 7, 7, 7, 7, 7, 7, 7, 7, 7, 7, 7, 7, 7, 7, 7, 7, 7, 7, 7, 7, 7, 7, 7, 7, 7, 7, 7, 7, 7, 7, 7, 7, 7, 7, 7, 7, 7, 7, 7, 7, 7, 7, 7, 7, 7, 7, 7, 7, 7, 7, 7, 7, 7, 7, 7, 7, 7, 7, 7, 8, 8, 8, 8, 8, 8, 8, 8, 8, 8, 8, 8, 8, 8, 8, 8, 8, 8, 8, 8, 8, 8, 8, 8, 8, 8, 8, 8, 8, 8, 8, 8, 8, 8, 8, 8, 8, 8, 8, 8, 8, 8, 8, 8, 8, 8, 8, 8, 8, 8, 8, 8, 8, 8, 8, 8, 8, 8, 8, 8, 8, 8, 8, 8, 8, 8, 8, 8, 8, 8, 8, 8, 8, 8, 8, 8, 8, 8, 8, 8, 8, 8, 8, 8, 8, 8, 8, 8, 8, 8, 8, 8, 8, 8, 8, 8, 8, 8, 8, 8, 8, 8, 8, 8, 8, 8, 8, 8, 8, 8, 8, 8, 8, 8, 8, 8, 8, 8, 8, 8, 8, 8, 8, 8, 8, 8, 8, 8]⟩ : ByteArray) (icv .u8 (ishr .u64 (ishr .u64 (ishr .u64 x (32 : Int)) (16 : Int)) (8 : Int)))))))) none) (
     sel (inb (icv .u8 (ishr .u64 (ishr .u64 x (32 : Int)) (16 : Int))) (256 : Int)) (
     k (len64.out (iadd .i64 (48 : Int) (icv .i64 (sidx (⟨#[0, 1, 2, 2, 3, 3, 3, 3, 4, 4, 4, 4, 4, 4, 4, 4, 5, 5, 5, 5, 5, 5, 5, 5, 5, 5, 5, 5, 5, 5, 5, 5, 6, 6, 6, 6, 6, 6, 6, 6, 6, 6, 6, 6, 6, 6, 6, 6, 6, 6, 6, 6, 6, 6, 6, 6, 6, 6, 6, 6, 6, 6, 6, 6, 7, 7, 7, 7, 7, 7, 7, 7, 7, 7, 7, 7, 7, 7, 7, 7, 7, 7, 7, 7, 7, 7, 7, 7, 7, 7, 7, 7, 7, 7, 7, 7, 7, 7, 7, 7, 7, 7, 7, 7, 7, 7, 7, 7, 7, 7, 7, 7, 7, 7, 7, 7, 7, 7, 7, 7, 7, 7, 7, 7, 7, 7, 7, 7, 8, 8, 8, 8, 8, 8, 8, 8, 8, 8, 8, 8, 8, 8, 8, 8, 8, 8, 8, 8, 8, 8, 8, 8, 8, 8, 8, 8, 8, 8, 8, 8, 8, 8, 8, 8, 8, 8, 8, 8, 8, 8, 8, 8, 8, 8, 8, 8, 8, 8, 8, 8, 8, 8, 8, 8, 8, 8, 8, 8, 8, 8, 8, 8, 8, 8, 8, 8, 8, 8, 8, 8, 8, 8, 8, 8, 8, 8, 8, 8, 8, 8, 8, 8, 8, 8, 8, 8, 8, 8, 8, 8, 8, 8, 8, 8, 8, 8, 8, 8, 8, 8, 8, 8, 8, 8, 8, 8, 8, 8, 8, 8, 8, 8, 8, 8, 8, 8, 8, 8, 8, 8, 8, 8, 8, 8, 8, 8]⟩ : ByteArray) (icv .u8 (ishr .u64 (ishr .u64 x (32 : Int)) (16 : Int)))))))) none)) (
    sel ((ige (ishr .u64 x (32 : Int)) (256 : Int))) (
     sel (inb (icv .u8 (ishr .u64 (ishr .u64 x (32 : Int)) (8 : Int))) (256 : Int)) (
     k (len64.out (iadd .i64 (40 : Int) (icv .i64 (sidx (⟨#[0, 1, 2, 2, 3, 3, 3, 3, 4, 4, 4, 4, 4, 4, 4, 4, 5, 5, 5, 5, 5, 5, 5, 5, 5, 5, 5, 5, 5, 5, 5, 5, 6, 6, 6, 6, 6, 6, 6, 6, 6, 6, 6, 6, 6, 6, 6, 6, 6, 6, 6, 6, 6, 6, 6, 6, 6, 6, 6, 6, 6, 6, 6, 6, 7, 7, 7, 7, 7, 7, 7, 7, 7, 7, 7, 7, 7, 7, 7, 7, 7, 7, 7, 7, 7, 7, 7, 7, 7, 7, 7, 7, 7, 7, 7, 7, 7, 7, 7, 7, 7, 7, 7, 7, 7, 7, 7, 7, 7, 7, 7, 7, 7, 7, 7, 7, 7, 7, 7, 7, 7, 7, 7, 7, 7, 7, 7, 7, 8, 8, 8, 8, 8, 8, 8, 8, 8, 8, 8, 8, 8, 8, 8, 8, 8, 8, 8, 8, 8, 8, 8, 8, 8, 8, 8, 8, 8, 8, 8, 8, 8, 8, 8, 8, 8, 8, 8, 8, 8, 8, 8, 8, 8, 8, 8, 8, 8, 8, 8, 8, 8, 8, 8, 8, 8, 8, 8, 8, 8, 8, 8, 8, 8, 8, 8, 8, 8, 8, 8, 8, 8, 8, 8, 8, 8, 8, 8, 8, 8, 8, 8, 8, 8, 8, 8, 8, 8, 8, 8, 8, 8, 8, 8, 8, 8, 8, 8, 8, 8, 8, 8, 8, 8, 8, 8, 8, 8, 8, 8, 8, 8, 8, 8, 8, 8, 8, 8, 8, 8, 8, 8, 8, 8, 8, 8, 8]⟩ : ByteArray) (icv .u8 (ishr .u64 (ishr .u64 x (32 : Int)) (8 : Int)))))))) none) (
     sel (inb (icv .u8 (ishr .u64 x (32 : Int))) (256 : Int)) (
     k (len64.out (iadd .i64 (32 : Int) (icv .i64 (sidx (⟨#[0, 1, 2, 2, 3, 3, 3, 3, 4, 4, 4, 4, 4, 4, 4, 4, 5, 5, 5, 5, 5, 5, 5, 5, 5, 5, 5, 5, 5, 5, 5, 5, 6, 6, 6, 6, 6, 6, 6, 6, 6, 6, 6, 6, 6, 6, 6, 6, 6, 6, 6, 6, 6, 6, 6, 6, 6, 6, 6, 6, 6, 6, 6, 6, 7, 7, 7, 7, 7, 7, 7, 7, 7, 7, 7, 7, 7, 7, 7, 7, 7, 7, 7, 7, 7, 7, 7, 7, 7, 7, 7, 7, 7, 7, 7, 7, 7, 7, 7, 7, 7, 7, 7, 7, 7, 7, 7, 7, 7, 7, 7, 7, 7, 7, 7, 7, 7, 7, 7, 7, 7, 7, 7, 7, 7, 7, 7, 7, 8, 8, 8, 8, 8, 8, 8, 8, 8, 8, 8, 8, 8, 8, 8, 8, 8, 8, 8, 8, 8, 8, 8, 8, 8, 8, 8, 8, 8, 8, 8, 8, 8, 8, 8, 8, 8, 8, 8, 8, 8, 8, 8, 8, 8, 8, 8, 8, 8, 8, 8, 8, 8, 8, 8, 8, 8, 8, 8, 8, 8, 8, 8, 8, 8, 8, 8, 8, 8, 8, 8, 8, 8, 8, 8, 8, 8, 8, 8, 8, 8, 8, 8, 8, 8, 8, 8, 8, 8, 8, 8, 8, 8, 8, 8, 8, 8, 8, 8, 8, 8, 8, 8, 8, 8, 8, 8, 8, 8, 8, 8, 8, 8, 8, 8, 8, 8, 8, 8, 8, 8, 8, 8, 8, 8, 8, 8, 8]⟩ : ByteArray) (icv .u8 (ishr .u64 x (32 : Int)))))))) none))) (
   sel ((ige x (65536 : Int))) (
    sel ((ige (ishr .u64 x (16 : Int)) (256 : Int))) (
     sel (inb (icv .u8 (ishr .u64 (ishr .u64 x (16 : Int)) (8 : Int))) (256 : Int)) (
     k (len64.out (iadd .i64 (24 : Int) (icv .i64 (sidx (⟨#[0, 1, 2, 2, 3, 3, 3, 3, 4, 4, 4, 4, 4, 4, 4, 4, 5, 5, 5, 5, 5, 5, 5, 5, 5, 5, 5, 5, 5, 5, 5, 5, 6, 6, 6, 6, 6, 6, 6, 6, 6, 6, 6, 6, 6, 6, 6, 6, 6, 6, 6, 6, 6, 6, 6, 6, 6, 6, 6, 6, 6, 6, 6, 6, 7, 7, 7, 7, 7, 7, 7, 7, 7, 7, 7, 7, 7, 7, 7, 7, 7, 7, 7, 7, 7, 7, 7, 7, 7, 7, 7, 7, 7, 7, 7, 7, 7, 7, 7, 7, 7, 7, 7, 7, 7, 7, 7, 7, 7, 7, 7, 7, 7, 7, 7, 7, 7, 7, 7, 7, 7, 7, 7, 7, 7, 7, 7, 7, 8, 8, 8, 8, 8, 8, 8, 8, 8, 8, 8, 8, 8, 8, 8, 8, 8, 8, 8, 8, 8, 8, 8, 8, 8, 8, 8, 8, 8, 8, 8, 8, 8, 8, 8, 8, 8, 8, 8, 8, 8, 8, 8, 8, 8, 8, 8, 8, 8, 8, 8, 8, 8, 8, 8, 8, 8, 8, 8, 8, 8, 8, 8, 8, 8, 8, 8, 8, 8, 8, 8, 8, 8, 8, 8, 8, 8, 8, 8, 8, 8, 8, 8, 8, 8, 8, 8, 8, 8, 8, 8, 8, 8, 8, 8, 8, 8, 8, 8, 8, 8, 8, 8, 8, 8, 8, 8, 8, 8, 8, 8, 8, 8, 8, 8, 8, 8, 8, 8, 8, 8, 8, 8, 8, 8, 8, 8, 8]⟩ : ByteArray) (icv .u8 (ishr .u64 (ishr .u64 x (16 : Int)) (8 : Int)))))))) none) (
     sel (inb (icv .u8 (ishr .u64 x (16 : Int))) (256 : Int)) (
     k (len64.out (iadd .i64 (16 : Int) (icv .i64 (sidx (⟨#[0, 1, 2, 2, 3, 3, 3, 3, 4, 4, 4, 4, 4, 4, 4, 4, 5, 5, 5, 5, 5, 5, 5, 5, 5, 5, 5, 5, 5, 5, 5, 5, 6, 6, 6, 6, 6, 6, 6, 6, 6, 6, 6, 6, 6, 6, 6, 6, 6, 6, 6, 6, 6, 6, 6, 6, 6, 6, 6, 6, 6, 6, 6, 6, 7, 7, 7, 7, 7, 7, 7, 7, 7, 7, 7, 7, 7, 7, 7, 7, 7, 7, 7, 7, 7, 7, 7, 7, 7, 7, 7, 7, 7, 7, 7, 7, 7, 7, 7, 7, 7, 7, 7, 7, 7, 7, 7, 7, 7, 7, 7, 7, 7, 7, 7, 7, 7, 7, 7, 7, 7, 7, 7, 7, 7, 7, 7, 7, 8, 8, 8, 8, 8, 8, 8, 8, 8, 8, 8, 8, 8, 8, 8, 8, 8, 8, 8, 8, 8, 8, 8, 8, 8, 8, 8, 8, 8, 8, 8, 8, 8, 8, 8, 8, 8, 8, 8, 8, 8, 8, 8, 8, 8, 8, 8, 8, 8, 8, 8, 8, 8, 8, 8, 8, 8, 8, 8, 8, 8, 8, 8, 8, 8, 8, 8, 8, 8, 8, 8, 8, 8, 8, 8, 8, 8, 8, 8, 8, 8, 8, 8, 8, 8, 8, 8, 8, 8, 8, 8, 8, 8, 8, 8, 8, 8, 8, 8, 8, 8, 8, 8, 8, 8, 8, 8, 8, 8, 8, 8, 8, 8, 8, 8, 8, 8, 8, 8, 8, 8, 8, 8, 8, 8, 8, 8, 8]⟩ : ByteArray) (icv .u8 (ishr .u64 x (16 : Int)))))))) none)) (
    sel ((ige x (256 : Int))) (
     sel (inb (icv .u8 (ishr .u64 x (8 : Int))) (256 : Int)) (
     k (len64.out (iadd .i64 (8 : Int) (icv .i64 (sidx (⟨#[0, 1, 2, 2, 3, 3, 3, 3, 4, 4, 4, 4, 4, 4, 4, 4, 5, 5, 5, 5, 5, 5, 5, 5, 5, 5, 5, 5, 5, 5, 5, 5, 6, 6, 6, 6, 6, 6, 6, 6, 6, 6, 6, 6, 6, 6, 6, 6, 6, 6, 6, 6, 6, 6, 6, 6, 6, 6, 6, 6, 6, 6, 6, 6, 7, 7, 7, 7, 7, 7, 7, 7, 7, 7, 7, 7, 7, 7, 7, 7, 7, 7, 7, 7, 7, 7, 7, 7, 7, 7, 7, 7, 7, 7, 7, 7, 7, 7, 7, 7, 7, 7, 7, 7, 7, 7, 7, 7, 7, 7, 7, 7, 7, 7, 7, 7, 7, 7, 7, 7, 7, 7, 7, 7, 7, 7, 7, 7, 8, 8, 8, 8, 8, 8, 8, 8, 8, 8, 8, 8, 8, 8, 8, 8, 8, 8, 8, 8, 8, 8, 8, 8, 8, 8, 8, 8, 8, 8, 8, 8, 8, 8, 8, 8, 8, 8, 8, 8, 8, 8, 8, 8, 8, 8, 8, 8, 8, 8, 8, 8, 8, 8, 8, 8, 8, 8, 8, 8, 8, 8, 8, 8, 8, 8, 8, 8, 8, 8, 8, 8, 8, 8, 8, 8, 8, 8, 8, 8, 8, 8, 8, 8, 8, 8, 8, 8, 8, 8, 8, 8, 8, 8, 8, 8, 8, 8, 8, 8, 8, 8, 8, 8, 8, 8, 8, 8, 8, 8, 8, 8, 8, 8, 8, 8, 8, 8, 8, 8, 8, 8, 8, 8, 8, 8, 8, 8]⟩ : ByteArray) (icv .u8 (ishr .u64 x (8 : Int)))))))) none) (
     sel (inb (icv .u8 x) (256 : Int)) (
     k (len64.out (iadd .i64 (0 : Int) (icv .i64 (sidx (⟨#[0, 1, 2, 2, 3, 3, 3, 3, 4, 4, 4, 4, 4, 4, 4, 4, 5, 5, 5, 5, 5, 5, 5, 5, 5, 5, 5, 5, 5, 5, 5, 5, 6, 6, 6, 6, 6, 6, 6, 6, 6, 6, 6, 6, 6, 6, 6, 6, 6, 6, 6, 6, 6, 6, 6, 6, 6, 6, 6, 6, 6, 6, 6, 6, 7, 7, 7, 7, 7, 7, 7, 7, 7, 7, 7, 7, 7, 7, 7, 7, 7, 7, 7, 7, 7, 7, 7, 7, 7, 7, 7, 7, 7, 7, 7, 7, 7, 7, 7, 7, 7, 7, 7, 7, 7, 7, 7, 7, 7, 7, 7, 7, 7, 7, 7, 7, 7, 7, 7, 7, 7, 7, 7, 7, 7, 7, 7, 7, 8, 8, 8, 8, 8, 8, 8, 8, 8, 8, 8, 8, 8, 8, 8, 8, 8, 8, 8, 8, 8, 8, 8, 8, 8, 8, 8, 8, 8, 8, 8, 8, 8, 8, 8, 8, 8, 8, 8, 8, 8, 8, 8, 8, 8, 8, 8, 8, 8, 8, 8, 8, 8, 8, 8, 8, 8, 8, 8, 8, 8, 8, 8, 8, 8, 8, 8, 8, 8, 8, 8, 8, 8, 8, 8, 8, 8, 8, 8, 8, 8, 8, 8, 8, 8, 8, 8, 8, 8, 8, 8, 8, 8, 8, 8, 8, 8, 8, 8, 8, 8, 8, 8, 8, 8, 8, 8, 8, 8, 8, 8, 8, 8, 8, 8, 8, 8, 8, 8, 8, 8, 8, 8, 8, 8, 8, 8, 8]⟩ : ByteArray) (icv .u8 x)))))) none))) := by kernel_rfl


theorem len64.ok : ∀ d, len64.Pre d → arun Tryz.prog len64.G len64.an 0 Tryz.f183 (len64.st d).1 (len64.st d).2 some = some (len64.out (len64.add d (len64.F d))) := by
  intro y h
  rw [len64.eq]
  obtain rfl | rfl | rfl := h <;> kernel_rfl

theorem len64.inj : ∀ d d', len64.st d = len64.st d' → d = d' := fun x x' hEq => by
  have e0 : x = x' := d_inj (t := (.int .u64)) (congrArg (fun s : List AVal × List Ent => (s.1.getD 0 .undef)) hEq)
  rw [e0]
noncomputable def len64.E : Entry := Entry.of [some (.int .u64)] len64.st len64.Pre (fun d => len64.add d (len64.F d)) len64.out
noncomputable def len64.call : len64.D → Option len64.X := fun d => len64.E.run (len64.st d).1 (len64.st d).2
theorem len64.run {d : len64.D} (h : len64.Pre d) : len64.call d = some (len64.add d (len64.F d)) := Entry.of_run len64.inj h
theorem len64.does : Does Tryz.prog 183 len64.E := Does.of (by kernel_rfl) (show Sound _ len64.G from Sound.nil _) (by kernel_rfl) (by kernel_rfl) (by kernel_rfl) (LOk.fn 0 (by kernel_rfl) trivial) len64.ok

/-! ### math/bits.LeadingZeros64 -/
abbrev lz64.D := Int
def lz64.st : lz64.D → List AVal × List Ent := fun x => ([.d (.int .u64) x], [])
abbrev lz64.Y := Int
abbrev lz64.X := Int
def lz64.out : lz64.X → GRes := fun x => ⟨.d (.int .i64) x, [], []⟩
def lz64.add : lz64.D → lz64.Y → lz64.X := fun x y => y


def lz64.Pre : lz64.D → Prop := isY
def lz64.F : lz64.D → lz64.Y := fun y => if y = 4611686018427377339 then 2 else 3

noncomputable def lz64.G : Gam := gcons 183 anyArgs len64.E (gnil)
noncomputable def lz64.an : Ann := {
  objs := [],
  loops := fun r => { keep := [], sites := [], frz := [], data := [], owns := [] },
  outs := fun r b => { keep := [], sites := [], frz := [], data := [], owns := [] },
  sums := fun r => none,
  owns := [],
  trim := [],
  res := [] }
theorem lz64.eq {R : Type} (x : Int) (k : GRes → Option R) : arun Tryz.prog lz64.G lz64.an 0 Tryz.f182 (lz64.st x).1 (lz64.st x).2 k =
  obind (len64.call x) fun x1 =>
  k (lz64.out (isub .i64 (64 : Int) x1)) := by kernel_rfl


theorem lz64.ok : ∀ d, lz64.Pre d → arun Tryz.prog lz64.G lz64.an 0 Tryz.f182 (lz64.st d).1 (lz64.st d).2 some = some (lz64.out (lz64.add d (lz64.F d))) := by
  intro y h
  rw [lz64.eq, len64.run (d := y) h]
  obtain rfl | rfl | rfl := h <;> rfl

theorem lz64.inj : ∀ d d', lz64.st d = lz64.st d' → d = d' := fun x x' hEq => by
  have e0 : x = x' := d_inj (t := (.int .u64)) (congrArg (fun s : List AVal × List Ent => (s.1.getD 0 .undef)) hEq)
  rw [e0]
noncomputable def lz64.E : Entry := Entry.of [some (.int .u64)] lz64.st lz64.Pre (fun d => lz64.add d (lz64.F d)) lz64.out
noncomputable def lz64.call : lz64.D → Option lz64.X := fun d => lz64.E.run (lz64.st d).1 (lz64.st d).2
theorem lz64.run {d : lz64.D} (h : lz64.Pre d) : lz64.call d = some (lz64.add d (lz64.F d)) := Entry.of_run lz64.inj h
theorem lz64.does : Does Tryz.prog 182 lz64.E := Does.of (by kernel_rfl) (show Sound _ lz64.G from Sound.cons len64.does (Sound.nil _)) (by kernel_rfl) (by kernel_rfl) (by kernel_rfl) (LOk.fn 0 (by kernel_rfl) trivial) lz64.ok

end Go.Ab
namespace Go.Ab
open Go.Proofs
set_option maxRecDepth 100000
set_option linter.unusedVariables false
set_option linter.unusedSimpArgs false

/-! ### math/bits.Div64 -/
abbrev div64.L0.D := Int × Int × Int × Int × Int × Int × Int × Int × Int
def div64.L0.st : div64.L0.D → AS := fun (yv_2, sv, yn1, yn0, un32, un1, un0, q1, rhat) => ⟨([.undef, .undef, .d (.int .u64) yv_2] ++ undN 5 ([.d (.int .u64) sv, .d (.int .u64) yn1, .d (.int .u64) yn0, .d (.int .u64) un32, .undef, .d (.int .u64) un1, .d (.int .u64) un0, .d (.int .u64) q1, .d (.int .u64) rhat] ++ undN 118 [])), [], (List.replicate 135 [])⟩
abbrev div64.L0.Y0 := Int  -- q1
abbrev div64.L0.X0 := (Int × Int × Int × Int × Int × Int × Int) × (Int)
def div64.L0.ex0 : div64.L0.X0 → Exit × AS := fun x => (.exit 0, ⟨([.undef, .undef, .d (.int .u64) x.1.1] ++ undN 5 ([.d (.int .u64) x.1.2.1, .d (.int .u64) x.1.2.2.1, .d (.int .u64) x.1.2.2.2.1, .d (.int .u64) x.1.2.2.2.2.1, .undef, .d (.int .u64) x.1.2.2.2.2.2.1, .d (.int .u64) x.1.2.2.2.2.2.2, .d (.int .u64) x.2] ++ undN 119 [])), [], (List.replicate 135 [])⟩)
abbrev div64.L0.X := div64.L0.X0
abbrev div64.L0.Y := div64.L0.Y0
def div64.L0.out : div64.L0.X → Out (Exit × AS) := fun x => .ok (div64.L0.ex0 x)
def div64.L0.add : div64.L0.D → div64.L0.Y → div64.L0.X := fun (yv_2, sv, yn1, yn0, un32, un1, un0, q1, rhat) y => ((yv_2, sv, yn1, yn0, un32, un1, un0), y)
abbrev div64.L1.D := Int × Int × Int × Int × Int × Int × Int × Int × Int
def div64.L1.st : div64.L1.D → AS := fun (yv_3, sv_2, yn1_2, yn0_2, un0_2, q1_2, rhat_2, un21, q0) => ⟨([.undef, .undef, .d (.int .u64) yv_3] ++ undN 5 ([.d (.int .u64) sv_2, .d (.int .u64) yn1_2, .d (.int .u64) yn0_2, .undef, .undef, .undef, .d (.int .u64) un0_2, .d (.int .u64) q1_2, .d (.int .u64) rhat_2, .d (.int .u64) un21, .d (.int .u64) q0] ++ undN 116 [])), [], (List.replicate 135 [])⟩
abbrev div64.L1.Y0 := Int  -- q0
abbrev div64.L1.X0 := (Int × Int × Int × Int × Int) × (Int)
def div64.L1.ex0 : div64.L1.X0 → Exit × AS := fun x => (.exit 2, ⟨([.undef, .undef, .d (.int .u64) x.1.1] ++ undN 5 ([.d (.int .u64) x.1.2.1] ++ undN 5 ([.d (.int .u64) x.1.2.2.1, .d (.int .u64) x.1.2.2.2.1, .undef, .d (.int .u64) x.1.2.2.2.2, .d (.int .u64) x.2] ++ undN 116 []))), [], (List.replicate 135 [])⟩)
abbrev div64.L1.X := div64.L1.X0
abbrev div64.L1.Y := div64.L1.Y0
def div64.L1.out : div64.L1.X → Out (Exit × AS) := fun x => .ok (div64.L1.ex0 x)
def div64.L1.add : div64.L1.D → div64.L1.Y → div64.L1.X := fun (yv_3, sv_2, yn1_2, yn0_2, un0_2, q1_2, rhat_2, un21, q0) y => ((yv_3, sv_2, un0_2, q1_2, un21), y)
abbrev div64.D := Int × Int × Int
def div64.st : div64.D → List AVal × List Ent := fun (hi, lo, yv) => ([.d (.int .u64) hi, .d (.int .u64) lo, .d (.int .u64) yv], [])
abbrev div64.Y := Int × Int
abbrev div64.X := Int × Int
def div64.out : div64.X → GRes := fun x => ⟨.cons (.d (.int .u64) x.1) (.cons (.d (.int .u64) x.2) (.nil)), [], []⟩
def div64.add : div64.D → div64.Y → div64.X := fun (hi, lo, yv) y => y


def div64.L0.Pre : div64.L0.D → Prop := fun (y, sv, yn1, yn0, u, w, un0, q, r) => ∃ e : Int, (e = 42260 ∨ e = 42264 ∨ e = 42272) ∧ y = 18446744073709551616 - e ∧ yn1 = 4294967295 ∧ yn0 = 4294967296 - e ∧ 0 ≤ u ∧ u < 18446744073709551616 - e ∧ 0 ≤ w ∧ w < 4294967296 ∧ 0 ≤ r ∧ r < 4294967296 ∧ q * 4294967295 + r = u ∧ (u * 4294967296 + w) / (18446744073709551616 - e) ≤ q
def div64.L0.F : div64.L0.D → div64.L0.Y := fun (y, sv, yn1, yn0, u, w, un0, q, r) => (u * 4294967296 + w) / y
def div64.L1.Pre : div64.L1.D → Prop := fun (y, sv, yn1, yn0, w, q1, r, u, q) => ∃ e : Int, (e = 42260 ∨ e = 42264 ∨ e = 42272) ∧ y = 18446744073709551616 - e ∧ yn1 = 4294967295 ∧ yn0 = 4294967296 - e ∧ 0 ≤ u ∧ u < 18446744073709551616 - e ∧ 0 ≤ w ∧ w < 4294967296 ∧ 0 ≤ r ∧ r < 4294967296 ∧ q * 4294967295 + r = u ∧ (u * 4294967296 + w) / (18446744073709551616 - e) ≤ q
def div64.L1.F : div64.L1.D → div64.L1.Y := fun (y, sv, yn1, yn0, w, q1, r, u, q) => (u * 4294967296 + w) / y
def div64.Pre : div64.D → Prop := fun (hi, lo, y) => isY y ∧ 0 ≤ hi ∧ hi < y ∧ 0 ≤ lo ∧ lo < 18446744073709551616
def div64.F : div64.D → div64.Y := fun (hi, lo, y) => ((hi * 18446744073709551616 + lo) / y, (hi * 18446744073709551616 + lo) % y)

noncomputable def div64.G : Gam := gcons 182 anyArgs lz64.E (gnil)
noncomputable def div64.L0.E : LEntry := LEntry.of div64.L0.st div64.L0.Pre (fun d => div64.L0.add d (div64.L0.F d)) div64.L0.out
noncomputable def div64.L0.call : div64.L0.D → Option div64.L0.X := fun d => div64.L0.E.run (div64.L0.st d)
noncomputable def div64.L1.E : LEntry := LEntry.of div64.L1.st div64.L1.Pre (fun d => div64.L1.add d (div64.L1.F d)) div64.L1.out
noncomputable def div64.L1.call : div64.L1.D → Option div64.L1.X := fun d => div64.L1.E.run (div64.L1.st d)
noncomputable def div64.an : Ann := {
  objs := [],
  loops := fun r => bif Nat.beq r 17 then { keep := [2, 8, 9, 10, 11, 13, 14, 15, 16], sites := [], frz := [], data := [], owns := [] } else bif Nat.beq r 24 then { keep := [2, 8, 9, 10, 14, 15, 16, 17, 18], sites := [], frz := [], data := [], owns := [] } else { keep := [], sites := [], frz := [], data := [], owns := [] },
  outs := fun r b => bif Nat.beq r 17 then (bif b then { keep := [6, 7], sites := [], frz := [], data := [], owns := [] } else { keep := [2, 8, 9, 10, 11, 13, 14, 15], sites := [], frz := [], data := [], owns := [] }) else bif Nat.beq r 24 then (bif b then { keep := [6, 7], sites := [], frz := [], data := [], owns := [] } else { keep := [2, 8, 14, 15, 17, 18], sites := [], frz := [], data := [], owns := [] }) else { keep := [], sites := [], frz := [], data := [], owns := [] },
  sums := fun r => bif Nat.beq r 17 then some div64.L0.E else bif Nat.beq r 24 then some div64.L1.E else none,
  owns := [],
  trim := [],
  res := [] }
theorem div64.L0.inj : ∀ d d', div64.L0.st d = div64.L0.st d' → d = d' := fun (yv_2, sv, yn1, yn0, un32, un1, un0, q1, rhat) (yv_2', sv', yn1', yn0', un32', un1', un0', q1', rhat') hEq => by
  have e0 : yv_2 = yv_2' := d_inj (t := (.int .u64)) (congrArg (fun s : AS => (s.slot 2)) hEq)
  have e1 : sv = sv' := d_inj (t := (.int .u64)) (congrArg (fun s : AS => (s.slot 8)) hEq)
  have e2 : yn1 = yn1' := d_inj (t := (.int .u64)) (congrArg (fun s : AS => (s.slot 9)) hEq)
  have e3 : yn0 = yn0' := d_inj (t := (.int .u64)) (congrArg (fun s : AS => (s.slot 10)) hEq)
  have e4 : un32 = un32' := d_inj (t := (.int .u64)) (congrArg (fun s : AS => (s.slot 11)) hEq)
  have e5 : un1 = un1' := d_inj (t := (.int .u64)) (congrArg (fun s : AS => (s.slot 13)) hEq)
  have e6 : un0 = un0' := d_inj (t := (.int .u64)) (congrArg (fun s : AS => (s.slot 14)) hEq)
  have e7 : q1 = q1' := d_inj (t := (.int .u64)) (congrArg (fun s : AS => (s.slot 15)) hEq)
  have e8 : rhat = rhat' := d_inj (t := (.int .u64)) (congrArg (fun s : AS => (s.slot 16)) hEq)
  rw [e0, e1, e2, e3, e4, e5, e6, e7, e8]
theorem div64.L0.run {d : div64.L0.D} (h : div64.L0.Pre d) : div64.L0.call d = some (div64.L0.add d (div64.L0.F d)) := LEntry.of_run div64.L0.inj h
theorem div64.L0.byRounds (μ : div64.L0.D → Nat) (h : ∀ d, div64.L0.Pre d → (∃ d', div64.L0.Pre d' ∧ μ d' < μ d ∧ div64.L0.add d' (div64.L0.F d') = div64.L0.add d (div64.L0.F d) ∧ ∀ {R : Type} (kn : AS → Option R) (kx : Exit → AS → Option R), lround Tryz.prog div64.G div64.an 0 Tryz.f174 0 (div64.L0.st d) kn kx = kn (div64.L0.st d')) ∨ (∀ {R : Type} (kn : AS → Option R) (kx : Exit → AS → Option R), lround Tryz.prog div64.G div64.an 0 Tryz.f174 0 (div64.L0.st d) kn kx = kx (div64.L0.ex0 (div64.L0.add d (div64.L0.F d))).1 (div64.L0.ex0 (div64.L0.add d (div64.L0.F d))).2)) : ∀ d, div64.L0.Pre d → ∃ n, lrun Tryz.prog div64.G div64.an 0 Tryz.f174 0 n (div64.L0.st d) (fun e s => some (e, s)) = (div64.L0.out (div64.L0.add d (div64.L0.F d))).eval := lrun_one (F := fun d => div64.L0.add d (div64.L0.F d)) μ h
theorem div64.L0.step {R : Type} (yv_2 : Int) (sv : Int) (yn1 : Int) (yn0 : Int) (un32 : Int) (un1 : Int) (un0 : Int) (q1 : Int) (rhat : Int) (kn : AS → Option R) (kx : Exit → AS → Option R) : lround Tryz.prog div64.G div64.an 0 Tryz.f174 0 (div64.L0.st (yv_2, sv, yn1, yn0, un32, un1, un0, q1, rhat)) kn kx =
  sel ((ige q1 (4294967296 : Int))) (
   sel ((ige (iadd .u64 rhat yn1) (4294967296 : Int))) (
    kx (div64.L0.ex0 ((yv_2, sv, yn1, yn0, un32, un1, un0), (isub .u64 q1 (1 : Int)))).1 (div64.L0.ex0 ((yv_2, sv, yn1, yn0, un32, un1, un0), (isub .u64 q1 (1 : Int)))).2) (
    kn (div64.L0.st (yv_2, sv, yn1, yn0, un32, un1, un0, (isub .u64 q1 (1 : Int)), (iadd .u64 rhat yn1))))) (
   sel ((igt (imul .u64 q1 yn0) (iadd .u64 (imul .u64 (4294967296 : Int) rhat) un1))) (
    sel ((ige (iadd .u64 rhat yn1) (4294967296 : Int))) (
     kx (div64.L0.ex0 ((yv_2, sv, yn1, yn0, un32, un1, un0), (isub .u64 q1 (1 : Int)))).1 (div64.L0.ex0 ((yv_2, sv, yn1, yn0, un32, un1, un0), (isub .u64 q1 (1 : Int)))).2) (
     kn (div64.L0.st (yv_2, sv, yn1, yn0, un32, un1, un0, (isub .u64 q1 (1 : Int)), (iadd .u64 rhat yn1))))) (
    kx (div64.L0.ex0 ((yv_2, sv, yn1, yn0, un32, un1, un0), q1)).1 (div64.L0.ex0 ((yv_2, sv, yn1, yn0, un32, un1, un0), q1)).2)) := by kernel_rfl
theorem div64.L1.inj : ∀ d d', div64.L1.st d = div64.L1.st d' → d = d' := fun (yv_3, sv_2, yn1_2, yn0_2, un0_2, q1_2, rhat_2, un21, q0) (yv_3', sv_2', yn1_2', yn0_2', un0_2', q1_2', rhat_2', un21', q0') hEq => by
  have e0 : yv_3 = yv_3' := d_inj (t := (.int .u64)) (congrArg (fun s : AS => (s.slot 2)) hEq)
  have e1 : sv_2 = sv_2' := d_inj (t := (.int .u64)) (congrArg (fun s : AS => (s.slot 8)) hEq)
  have e2 : yn1_2 = yn1_2' := d_inj (t := (.int .u64)) (congrArg (fun s : AS => (s.slot 9)) hEq)
  have e3 : yn0_2 = yn0_2' := d_inj (t := (.int .u64)) (congrArg (fun s : AS => (s.slot 10)) hEq)
  have e4 : un0_2 = un0_2' := d_inj (t := (.int .u64)) (congrArg (fun s : AS => (s.slot 14)) hEq)
  have e5 : q1_2 = q1_2' := d_inj (t := (.int .u64)) (congrArg (fun s : AS => (s.slot 15)) hEq)
  have e6 : rhat_2 = rhat_2' := d_inj (t := (.int .u64)) (congrArg (fun s : AS => (s.slot 16)) hEq)
  have e7 : un21 = un21' := d_inj (t := (.int .u64)) (congrArg (fun s : AS => (s.slot 17)) hEq)
  have e8 : q0 = q0' := d_inj (t := (.int .u64)) (congrArg (fun s : AS => (s.slot 18)) hEq)
  rw [e0, e1, e2, e3, e4, e5, e6, e7, e8]
theorem div64.L1.run {d : div64.L1.D} (h : div64.L1.Pre d) : div64.L1.call d = some (div64.L1.add d (div64.L1.F d)) := LEntry.of_run div64.L1.inj h
theorem div64.L1.byRounds (μ : div64.L1.D → Nat) (h : ∀ d, div64.L1.Pre d → (∃ d', div64.L1.Pre d' ∧ μ d' < μ d ∧ div64.L1.add d' (div64.L1.F d') = div64.L1.add d (div64.L1.F d) ∧ ∀ {R : Type} (kn : AS → Option R) (kx : Exit → AS → Option R), lround Tryz.prog div64.G div64.an 0 Tryz.f174 1 (div64.L1.st d) kn kx = kn (div64.L1.st d')) ∨ (∀ {R : Type} (kn : AS → Option R) (kx : Exit → AS → Option R), lround Tryz.prog div64.G div64.an 0 Tryz.f174 1 (div64.L1.st d) kn kx = kx (div64.L1.ex0 (div64.L1.add d (div64.L1.F d))).1 (div64.L1.ex0 (div64.L1.add d (div64.L1.F d))).2)) : ∀ d, div64.L1.Pre d → ∃ n, lrun Tryz.prog div64.G div64.an 0 Tryz.f174 1 n (div64.L1.st d) (fun e s => some (e, s)) = (div64.L1.out (div64.L1.add d (div64.L1.F d))).eval := lrun_one (F := fun d => div64.L1.add d (div64.L1.F d)) μ h
theorem div64.L1.step {R : Type} (yv_3 : Int) (sv_2 : Int) (yn1_2 : Int) (yn0_2 : Int) (un0_2 : Int) (q1_2 : Int) (rhat_2 : Int) (un21 : Int) (q0 : Int) (kn : AS → Option R) (kx : Exit → AS → Option R) : lround Tryz.prog div64.G div64.an 0 Tryz.f174 1 (div64.L1.st (yv_3, sv_2, yn1_2, yn0_2, un0_2, q1_2, rhat_2, un21, q0)) kn kx =
  sel ((ige q0 (4294967296 : Int))) (
   sel ((ige (iadd .u64 rhat_2 yn1_2) (4294967296 : Int))) (
    kx (div64.L1.ex0 ((yv_3, sv_2, un0_2, q1_2, un21), (isub .u64 q0 (1 : Int)))).1 (div64.L1.ex0 ((yv_3, sv_2, un0_2, q1_2, un21), (isub .u64 q0 (1 : Int)))).2) (
    kn (div64.L1.st (yv_3, sv_2, yn1_2, yn0_2, un0_2, q1_2, (iadd .u64 rhat_2 yn1_2), un21, (isub .u64 q0 (1 : Int)))))) (
   sel ((igt (imul .u64 q0 yn0_2) (iadd .u64 (imul .u64 (4294967296 : Int) rhat_2) un0_2))) (
    sel ((ige (iadd .u64 rhat_2 yn1_2) (4294967296 : Int))) (
     kx (div64.L1.ex0 ((yv_3, sv_2, un0_2, q1_2, un21), (isub .u64 q0 (1 : Int)))).1 (div64.L1.ex0 ((yv_3, sv_2, un0_2, q1_2, un21), (isub .u64 q0 (1 : Int)))).2) (
     kn (div64.L1.st (yv_3, sv_2, yn1_2, yn0_2, un0_2, q1_2, (iadd .u64 rhat_2 yn1_2), un21, (isub .u64 q0 (1 : Int)))))) (
    kx (div64.L1.ex0 ((yv_3, sv_2, un0_2, q1_2, un21), q0)).1 (div64.L1.ex0 ((yv_3, sv_2, un0_2, q1_2, un21), q0)).2)) := by kernel_rfl
theorem div64.eq {R : Type} (hi : Int) (lo : Int) (yv : Int) (k : GRes → Option R) : arun Tryz.prog div64.G div64.an 0 Tryz.f174 (div64.st (hi, lo, yv)).1 (div64.st (hi, lo, yv)).2 k =
  sel ((ieq yv (0 : Int))) (
   none /- load of .undef at bits.go:520: load -/) (
   sel ((ile yv hi)) (
    none /- load of .undef at bits.go:523: load -/) (
    sel ((ieq hi (0 : Int))) (
     sel (nonzero yv) (
     sel (nonzero yv) (
     k (div64.out ((iquo .u64 lo yv), (irem lo yv)))) none) none) (
     obind (lz64.call yv) fun x1 =>
     sel (nonneg (icv .u64 x1)) (
     sel (nonneg (icv .u64 x1)) (
     sel (nonneg (isub .u64 (64 : Int) (icv .u64 x1))) (
     sel (nonneg (icv .u64 x1)) (
     sel (nonzero (ishr .u64 (ishl .u64 yv (icv .u64 x1)) (32 : Int))) (
     obind (div64.L0.call ((ishl .u64 yv (icv .u64 x1)), (icv .u64 x1), (ishr .u64 (ishl .u64 yv (icv .u64 x1)) (32 : Int)), (bitop .and .u64 (ishl .u64 yv (icv .u64 x1)) (4294967295 : Int)), (bitop .or .u64 (ishl .u64 hi (icv .u64 x1)) (ishr .u64 lo (isub .u64 (64 : Int) (icv .u64 x1)))), (ishr .u64 (ishl .u64 lo (icv .u64 x1)) (32 : Int)), (bitop .and .u64 (ishl .u64 lo (icv .u64 x1)) (4294967295 : Int)), (iquo .u64 (bitop .or .u64 (ishl .u64 hi (icv .u64 x1)) (ishr .u64 lo (isub .u64 (64 : Int) (icv .u64 x1)))) (ishr .u64 (ishl .u64 yv (icv .u64 x1)) (32 : Int))), (isub .u64 (bitop .or .u64 (ishl .u64 hi (icv .u64 x1)) (ishr .u64 lo (isub .u64 (64 : Int) (icv .u64 x1)))) (imul .u64 (iquo .u64 (bitop .or .u64 (ishl .u64 hi (icv .u64 x1)) (ishr .u64 lo (isub .u64 (64 : Int) (icv .u64 x1)))) (ishr .u64 (ishl .u64 yv (icv .u64 x1)) (32 : Int))) (ishr .u64 (ishl .u64 yv (icv .u64 x1)) (32 : Int)))))) fun x2 =>
     sel (nonzero x2.1.2.2.1) (
     obind (div64.L1.call (x2.1.1, x2.1.2.1, x2.1.2.2.1, x2.1.2.2.2.1, x2.1.2.2.2.2.2.2, x2.2, (isub .u64 (isub .u64 (iadd .u64 (imul .u64 x2.1.2.2.2.2.1 (4294967296 : Int)) x2.1.2.2.2.2.2.1) (imul .u64 x2.2 x2.1.1)) (imul .u64 (iquo .u64 (isub .u64 (iadd .u64 (imul .u64 x2.1.2.2.2.2.1 (4294967296 : Int)) x2.1.2.2.2.2.2.1) (imul .u64 x2.2 x2.1.1)) x2.1.2.2.1) x2.1.2.2.1)), (isub .u64 (iadd .u64 (imul .u64 x2.1.2.2.2.2.1 (4294967296 : Int)) x2.1.2.2.2.2.2.1) (imul .u64 x2.2 x2.1.1)), (iquo .u64 (isub .u64 (iadd .u64 (imul .u64 x2.1.2.2.2.2.1 (4294967296 : Int)) x2.1.2.2.2.2.2.1) (imul .u64 x2.2 x2.1.1)) x2.1.2.2.1))) fun x3 =>
     sel (nonneg x3.1.2.1) (
     k (div64.out ((iadd .u64 (imul .u64 x3.1.2.2.2.1 (4294967296 : Int)) x3.2), (ishr .u64 (isub .u64 (iadd .u64 (imul .u64 x3.1.2.2.2.2 (4294967296 : Int)) x3.1.2.2.1) (imul .u64 x3.2 x3.1.1)) x3.1.2.1)))) none) none) none) none) none) none) none))) := by kernel_rfl


theorem div64.L0.ok : ∀ d, div64.L0.Pre d → ∃ n, lrun Tryz.prog div64.G div64.an 0 Tryz.f174 0 n (div64.L0.st d) (fun e s => some (e, s)) = (div64.L0.out (div64.L0.add d (div64.L0.F d))).eval := by
  refine div64.L0.byRounds (fun (y, sv, yn1, yn0, u, w, un0, q, r) => q.toNat) ?_
  rintro ⟨y, sv, yn1, yn0, u, w, un0, q, r⟩ ⟨e, he, rfl, rfl, rfl, hu, hu2, hw, hw2, hr, hr2, hq, hQ⟩
  have hu : 0 ≤ u := hu
  have hu2 : u < 18446744073709551616 - e := hu2
  have hw : 0 ≤ w := hw
  have hw2 : w < 4294967296 := hw2
  have hr : 0 ≤ r := hr
  have hr2 : r < 4294967296 := hr2
  have hq : q * 4294967295 + r = u := hq
  obtain ⟨k1, k2, k3, k4, k5, k6⟩ := k1 he hu hu2 hw hw2 hr hr2 hq hQ
  have q0 : 0 ≤ q := Int.le_trans k5 hQ
  have a1 : iadd .u64 r 4294967295 = r + 4294967295 := by rw [iadd_um]; omega
  have a2 : iadd .u64 (imul .u64 4294967296 r) w = 4294967296 * r + w := by rw [imul_um, iadd_um]; omega
  have a3 : q < 4294967296 → imul .u64 q (4294967296 - e) = q * (4294967296 - e) := by
    intro h; rw [imul_um]; rcases he with rfl | rfl | rfl <;> omega
  have a4 : 0 < q → isub .u64 q 1 = q - 1 := by intro h; rw [isub_um]; omega
  have pos : 4294967296 ≤ q ∨ (q < 4294967296 ∧ 4294967296 * r + w < q * (4294967296 - e)) → 0 < q ∧ (u * 4294967296 + w) / (18446744073709551616 - e) ≤ q - 1 := by
    rintro (h | ⟨h, h2⟩)
    · exact ⟨by omega, k1 h⟩
    · exact ⟨by have := k2 h h2; omega, k2 h h2⟩
  by_cases hc : 4294967296 ≤ q ∨ (q < 4294967296 ∧ 4294967296 * r + w < q * (4294967296 - e))
  · obtain ⟨p1, p2⟩ := pos hc
    by_cases hb : 4294967296 ≤ r + 4294967295
    · right
      have hF : div64.L0.F (18446744073709551616 - e, sv, 4294967295, 4294967296 - e, u, w, un0, q, r) = q - 1 := k4 hb p2
      intro R kn kx
      rw [div64.L0.step, a1, a2, a4 p1, ige_true hb, hF]
      rcases hc with h | ⟨h, h2⟩
      · rw [ige_true h]; rfl
      · rw [ige_false (by omega), a3 h, igt_true h2]; rfl
    · left
      refine ⟨(18446744073709551616 - e, sv, 4294967295, 4294967296 - e, u, w, un0, q - 1, r + 4294967295), ⟨e, he, rfl, rfl, rfl, hu, hu2, hw, hw2, by omega, by omega, by omega, p2⟩, by simp only []; omega, rfl, fun kn kx => ?_⟩
      rw [div64.L0.step, a1, a2, a4 p1, ige_false hb]
      rcases hc with h | ⟨h, h2⟩
      · rw [ige_true h]; rfl
      · rw [ige_false (by omega), a3 h, igt_true h2]; rfl
  · right
    have h : q < 4294967296 := by omega
    have h2 : ¬ 4294967296 * r + w < q * (4294967296 - e) := fun x => hc (Or.inr ⟨h, x⟩)
    have hF : div64.L0.F (18446744073709551616 - e, sv, 4294967295, 4294967296 - e, u, w, un0, q, r) = q := k3 h (by omega)
    intro R kn kx
    rw [div64.L0.step, a2, a3 h, ige_false (by omega), igt_false h2, hF]
    rfl


theorem div64.L1.ok : ∀ d, div64.L1.Pre d → ∃ n, lrun Tryz.prog div64.G div64.an 0 Tryz.f174 1 n (div64.L1.st d) (fun e s => some (e, s)) = (div64.L1.out (div64.L1.add d (div64.L1.F d))).eval := by
  refine div64.L1.byRounds (fun (y, sv, yn1, yn0, w, q1, r, u, q) => q.toNat) ?_
  rintro ⟨y, sv, yn1, yn0, w, q1, r, u, q⟩ ⟨e, he, rfl, rfl, rfl, hu, hu2, hw, hw2, hr, hr2, hq, hQ⟩
  have hu : 0 ≤ u := hu
  have hu2 : u < 18446744073709551616 - e := hu2
  have hw : 0 ≤ w := hw
  have hw2 : w < 4294967296 := hw2
  have hr : 0 ≤ r := hr
  have hr2 : r < 4294967296 := hr2
  have hq : q * 4294967295 + r = u := hq
  obtain ⟨k1, k2, k3, k4, k5, k6⟩ := k1 he hu hu2 hw hw2 hr hr2 hq hQ
  have q0 : 0 ≤ q := Int.le_trans k5 hQ
  have a1 : iadd .u64 r 4294967295 = r + 4294967295 := by rw [iadd_um]; omega
  have a2 : iadd .u64 (imul .u64 4294967296 r) w = 4294967296 * r + w := by rw [imul_um, iadd_um]; omega
  have a3 : q < 4294967296 → imul .u64 q (4294967296 - e) = q * (4294967296 - e) := by
    intro h; rw [imul_um]; rcases he with rfl | rfl | rfl <;> omega
  have a4 : 0 < q → isub .u64 q 1 = q - 1 := by intro h; rw [isub_um]; omega
  have pos : 4294967296 ≤ q ∨ (q < 4294967296 ∧ 4294967296 * r + w < q * (4294967296 - e)) → 0 < q ∧ (u * 4294967296 + w) / (18446744073709551616 - e) ≤ q - 1 := by
    rintro (h | ⟨h, h2⟩)
    · exact ⟨by omega, k1 h⟩
    · exact ⟨by have := k2 h h2; omega, k2 h h2⟩
  by_cases hc : 4294967296 ≤ q ∨ (q < 4294967296 ∧ 4294967296 * r + w < q * (4294967296 - e))
  · obtain ⟨p1, p2⟩ := pos hc
    by_cases hb : 4294967296 ≤ r + 4294967295
    · right
      have hF : div64.L1.F (18446744073709551616 - e, sv, 4294967295, 4294967296 - e, w, q1, r, u, q) = q - 1 := k4 hb p2
      intro R kn kx
      rw [div64.L1.step, a1, a2, a4 p1, ige_true hb, hF]
      rcases hc with h | ⟨h, h2⟩
      · rw [ige_true h]; rfl
      · rw [ige_false (by omega), a3 h, igt_true h2]; rfl
    · left
      refine ⟨(18446744073709551616 - e, sv, 4294967295, 4294967296 - e, w, q1, r + 4294967295, u, q - 1), ⟨e, he, rfl, rfl, rfl, hu, hu2, hw, hw2, by omega, by omega, by omega, p2⟩, by simp only []; omega, rfl, fun kn kx => ?_⟩
      rw [div64.L1.step, a1, a2, a4 p1, ige_false hb]
      rcases hc with h | ⟨h, h2⟩
      · rw [ige_true h]; rfl
      · rw [ige_false (by omega), a3 h, igt_true h2]; rfl
  · right
    have h : q < 4294967296 := by omega
    have h2 : ¬ 4294967296 * r + w < q * (4294967296 - e) := fun x => hc (Or.inr ⟨h, x⟩)
    have hF : div64.L1.F (18446744073709551616 - e, sv, 4294967295, 4294967296 - e, w, q1, r, u, q) = q := k3 h (by omega)
    intro R kn kx
    rw [div64.L1.step, a2, a3 h, ige_false (by omega), igt_false h2, hF]
    rfl


/-- What is shifted: both digits of the divisor, and three of the number. -/
theorem dshift {y hi lo : Int} (hy : isY y) (h0 : 0 ≤ hi) (h1 : hi < y) (h2 : 0 ≤ lo) (h3 : lo < 18446744073709551616) : ∃ (s : Nat) (e m : Int), lz64.F y = s ∧ (s = 2 ∨ s = 3) ∧ m = 2 ^ s ∧ (e = 42260 ∨ e = 42264 ∨ e = 42272) ∧ y * m = 18446744073709551616 - e ∧
    ishl .u64 y (s : Int) = 18446744073709551616 - e ∧
    bitop .or .u64 (ishl .u64 hi (s : Int)) (ishr .u64 lo (isub .u64 64 (s : Int))) = (hi * 18446744073709551616 + lo) * m / 18446744073709551616 ∧
    ishl .u64 lo (s : Int) = (hi * 18446744073709551616 + lo) * m % 18446744073709551616 ∧
    (hi * 18446744073709551616 + lo) * m / 18446744073709551616 < 18446744073709551616 - e ∧
    (hi * 18446744073709551616 + lo) * m / (18446744073709551616 - e) = (hi * 18446744073709551616 + lo) / y ∧
    (hi * 18446744073709551616 + lo) * m % (18446744073709551616 - e) / m = (hi * 18446744073709551616 + lo) % y := by
  have e1 : isub .u64 64 ((2 : Nat) : Int) = ((62 : Nat) : Int) := rfl
  have e2 : isub .u64 64 ((3 : Nat) : Int) = ((61 : Nat) : Int) := rfl
  have p2 : (2 : Int) ^ 2 = 4 := rfl
  have p3 : (2 : Int) ^ 3 = 8 := rfl
  have p61 : (2 : Int) ^ 61 = 2305843009213693952 := rfl
  have p62 : (2 : Int) ^ 62 = 4611686018427387904 := rfl
  obtain rfl | rfl | rfl := hy
  · refine ⟨2, 42260, 4, rfl, Or.inl rfl, rfl, Or.inl rfl, rfl, by rw [shl_u64 2 (by rfl) (by omega), p2]; omega, ?_, ?_, by omega, by omega, by omega⟩
    · rw [e1, shl_u64 2 (by rfl) (by omega), shr_u64 62 (by rfl) (by omega), p2, p62, or_apart 2 4 rfl (by omega) (by omega) (by omega) (by omega) (by omega) (by omega)]; omega
    · rw [shl_u64 2 (by rfl) (by omega), p2]; omega
  · refine ⟨3, 42264, 8, rfl, Or.inr rfl, rfl, Or.inr (Or.inl rfl), rfl, by rw [shl_u64 3 (by rfl) (by omega), p3]; omega, ?_, ?_, by omega, by omega, by omega⟩
    · rw [e2, shl_u64 3 (by rfl) (by omega), shr_u64 61 (by rfl) (by omega), p3, p61, or_apart 3 8 rfl (by omega) (by omega) (by omega) (by omega) (by omega) (by omega)]; omega
    · rw [shl_u64 3 (by rfl) (by omega), p3]; omega
  · refine ⟨3, 42272, 8, rfl, Or.inr rfl, rfl, Or.inr (Or.inr rfl), rfl, by rw [shl_u64 3 (by rfl) (by omega), p3]; omega, ?_, ?_, by omega, by omega, by omega⟩
    · rw [e2, shl_u64 3 (by rfl) (by omega), shr_u64 61 (by rfl) (by omega), p3, p61, or_apart 3 8 rfl (by omega) (by omega) (by omega) (by omega) (by omega) (by omega)]; omega
    · rw [shl_u64 3 (by rfl) (by omega), p3]; omega


theorem mod3 (a b c : Int) : (((a % 18446744073709551616 + b) % 18446744073709551616) - c % 18446744073709551616) % 18446744073709551616 = (a + b - c) % 18446744073709551616 := by omega
theorem div64.ok : ∀ d, div64.Pre d → arun Tryz.prog div64.G div64.an 0 Tryz.f174 (div64.st d).1 (div64.st d).2 some = some (div64.out (div64.add d (div64.F d))) := by
  rintro ⟨hi, lo, y⟩ ⟨hy, h0, h1, h2, h3⟩
  have h0 : 0 ≤ hi := h0
  have h1 : hi < y := h1
  have h2 : 0 ≤ lo := h2
  have h3 : lo < 18446744073709551616 := h3
  have yb : 0 < y ∧ y < 18446744073709551616 := by obtain rfl | rfl | rfl := hy <;> omega
  rw [div64.eq, ieq_false (by omega), ile_false (by omega)]
  simp only [sel_false]
  have z : nonzero y = true := by simp [nonzero]; omega
  by_cases hz : hi = 0
  · subst hz
    rw [ieq_true rfl, z, iquo_nn h2 (by omega) h3, irem_nn h2]
    simp only [sel_true, div64.F, div64.add, Int.zero_mul, Int.zero_add]
  · obtain ⟨s, e, m, hs, hs2, hm, he, hym, a1, a2, a3, a4, a5, a6⟩ := dshift hy h0 h1 h2 h3
    have c1 : icv .u64 (s : Int) = (s : Int) := by rw [icv_um]; omega
    have c2 : nonneg (s : Int) = true := nonneg_true (by omega)
    have c3 : nonneg (isub .u64 64 (s : Int)) = true := by rcases hs2 with rfl | rfl <;> rfl
    rw [ieq_false hz, lz64.run (d := y) hy]
    simp only [sel_false, obind_some, lz64.add, hs, c1, c2, c3, sel_true, a1, a2, a3]
    have hN : 0 ≤ (hi * 18446744073709551616 + lo) * m := Int.mul_nonneg (by omega) (by rcases hs2 with rfl | rfl <;> omega)
    revert a4 a5 a6
    generalize (hi * 18446744073709551616 + lo) * m = N at hN
    intro a4 a5 a6
    have u0 : 0 ≤ N / 18446744073709551616 := by omega
    have t0 : 0 ≤ N % 18446744073709551616 := by omega
    have t1 : N % 18446744073709551616 < 18446744073709551616 := by omega
    have hd : N = (N / 18446744073709551616 * 4294967296 + N % 18446744073709551616 / 4294967296) * 4294967296 + N % 18446744073709551616 % 4294967296 := by omega
    have w10 : 0 ≤ N % 18446744073709551616 / 4294967296 := by omega
    have w11 : N % 18446744073709551616 / 4294967296 < 4294967296 := by omega
    have w00 : 0 ≤ N % 18446744073709551616 % 4294967296 := by omega
    have w01 : N % 18446744073709551616 % 4294967296 < 4294967296 := by omega
    have p32 : (2 : Int) ^ 32 = 4294967296 := rfl
    have b1 : ishr .u64 (18446744073709551616 - e) 32 = 4294967295 := by rw [shr_u64 32 (by rfl) (by omega), p32]; rcases he with rfl | rfl | rfl <;> rfl
    have b2 : bitop .and .u64 (18446744073709551616 - e) 4294967295 = 4294967296 - e := by rw [and32 (by omega) (by omega)]; omega
    have b3 : ishr .u64 (N % 18446744073709551616) 32 = N % 18446744073709551616 / 4294967296 := by rw [shr_u64 32 (by rfl) (by omega), p32]
    have b4 : bitop .and .u64 (N % 18446744073709551616) 4294967295 = N % 18446744073709551616 % 4294967296 := and32 t0 t1
    have z2 : nonzero 4294967295 = true := rfl
    simp only [b1, b2, b3, b4, z2, sel_true]
    clear a1 a2 a3 b1 b2 b3 b4
    have kdd := kd (18446744073709551616 - e) (N / 18446744073709551616) (N % 18446744073709551616 / 4294967296) (N % 18446744073709551616 % 4294967296) (by omega) w00 w01
    rw [← hd, a5] at kdd
    revert a4 kdd
    generalize N / 18446744073709551616 = u at u0
    generalize N % 18446744073709551616 / 4294967296 = w1 at w10 w11
    generalize N % 18446744073709551616 % 4294967296 = w0 at w00 w01
    intro a4 kdd
    have g : ∀ u w : Int, 0 ≤ u → u < 18446744073709551616 - e → 0 ≤ w → w < 4294967296 →
        iquo .u64 u 4294967295 = u / 4294967295 ∧ isub .u64 u (imul .u64 (u / 4294967295) 4294967295) = u - u / 4294967295 * 4294967295 ∧
        isub .u64 (iadd .u64 (imul .u64 u 4294967296) w) (imul .u64 ((u * 4294967296 + w) / (18446744073709551616 - e)) (18446744073709551616 - e)) = (u * 4294967296 + w) % (18446744073709551616 - e) := by
      intro u w k1 k2 k3 k4
      obtain ⟨q1, q2, q3, q4, q5, q6, q7, q8⟩ := k0 he k1 k2 k3 k4
      refine ⟨iquo_nn k1 (by omega) (by omega), by rw [isub_um, imul_um]; omega, ?_⟩
      rw [isub_um, iadd_um, imul_um, imul_um, mod3, q4]
      exact Int.emod_eq_of_lt q5 (by omega)
    obtain ⟨f1, f2, f3⟩ := g u w1 u0 a4 w10 w11
    obtain ⟨q1, q2, q3, q4, q5, q6, q7, q8⟩ := k0 he u0 a4 w10 w11
    have p1 : div64.L0.Pre (18446744073709551616 - e, (s : Int), 4294967295, 4294967296 - e, u, w1, w0, u / 4294967295, u - u / 4294967295 * 4294967295) := ⟨e, he, rfl, rfl, rfl, u0, a4, w10, w11, q2, q3, by omega, q1⟩
    rw [f1, f2, div64.L0.run p1]
    simp only [obind_some, div64.L0.add, div64.L0.F, z2, sel_true, f3]
    revert f3 q1 kdd
    generalize (u * 4294967296 + w1) % (18446744073709551616 - e) = v at q4 q5 q6
    generalize (u * 4294967296 + w1) / (18446744073709551616 - e) = Q at q4 q7 q8
    intro kdd f3 q1
    obtain ⟨g1, g2, g3⟩ := g v w0 q5 q6 w00 w01
    obtain ⟨r1, r2, r3, r4, r5, r6, r7, r8⟩ := k0 he q5 q6 w00 w01
    have p2 : div64.L1.Pre (18446744073709551616 - e, (s : Int), 4294967295, 4294967296 - e, w0, Q, v - v / 4294967295 * 4294967295, v, v / 4294967295) := ⟨e, he, rfl, rfl, rfl, q5, q6, w00, w01, r2, r3, by omega, r1⟩
    rw [g1, g2, div64.L1.run p2]
    simp only [obind_some, div64.L1.add, div64.L1.F, c2, sel_true, g3]
    rw [← kdd.2, shr_u64 s (by rfl) (by omega), ← hm, a6, imul_um, iadd_um]
    have e9 : (Q * 4294967296 % 18446744073709551616 + (v * 4294967296 + w0) / (18446744073709551616 - e)) % 18446744073709551616 = (hi * 18446744073709551616 + lo) / y := by rw [kdd.1]; omega
    rw [e9]
    rfl

theorem div64.inj : ∀ d d', div64.st d = div64.st d' → d = d' := fun (hi, lo, yv) (hi', lo', yv') hEq => by
  have e0 : hi = hi' := d_inj (t := (.int .u64)) (congrArg (fun s : List AVal × List Ent => (s.1.getD 0 .undef)) hEq)
  have e1 : lo = lo' := d_inj (t := (.int .u64)) (congrArg (fun s : List AVal × List Ent => (s.1.getD 1 .undef)) hEq)
  have e2 : yv = yv' := d_inj (t := (.int .u64)) (congrArg (fun s : List AVal × List Ent => (s.1.getD 2 .undef)) hEq)
  rw [e0, e1, e2]
noncomputable def div64.E : Entry := Entry.of [some (.int .u64), some (.int .u64), some (.int .u64)] div64.st div64.Pre (fun d => div64.add d (div64.F d)) div64.out
noncomputable def div64.call : div64.D → Option div64.X := fun d => div64.E.run (div64.st d).1 (div64.st d).2
theorem div64.run {d : div64.D} (h : div64.Pre d) : div64.call d = some (div64.add d (div64.F d)) := Entry.of_run div64.inj h
theorem div64.does : Does Tryz.prog 174 div64.E := Does.of (by kernel_rfl) (show Sound _ div64.G from Sound.cons lz64.does (Sound.nil _)) (by kernel_rfl) (by kernel_rfl) (by kernel_rfl) (LOk.fn 2 (by kernel_rfl) (And.intro (LDo.of (by kernel_rfl) div64.L0.ok) (And.intro (LDo.of (by kernel_rfl) div64.L1.ok) trivial))) div64.ok

/-! ### math/bits.Rem64 -/
abbrev rem64.D := Int × Int × Int
def rem64.st : rem64.D → List AVal × List Ent := fun (hi, lo, yv) => ([.d (.int .u64) hi, .d (.int .u64) lo, .d (.int .u64) yv], [])
abbrev rem64.Y := Int
abbrev rem64.X := Int
def rem64.out : rem64.X → GRes := fun x => ⟨.d (.int .u64) x, [], []⟩
def rem64.add : rem64.D → rem64.Y → rem64.X := fun (hi, lo, yv) y => y


def rem64.Pre : rem64.D → Prop := fun (hi, lo, y) => isY y ∧ 0 ≤ hi ∧ hi < 18446744073709551616 ∧ 0 ≤ lo ∧ lo < 18446744073709551616
def rem64.F : rem64.D → rem64.Y := fun (hi, lo, y) => (hi * 18446744073709551616 + lo) % y

noncomputable def rem64.G : Gam := gcons 174 anyArgs div64.E (gnil)
noncomputable def rem64.an : Ann := {
  objs := [],
  loops := fun r => { keep := [], sites := [], frz := [], data := [], owns := [] },
  outs := fun r b => { keep := [], sites := [], frz := [], data := [], owns := [] },
  sums := fun r => none,
  owns := [],
  trim := [],
  res := [] }
theorem rem64.eq {R : Type} (hi : Int) (lo : Int) (yv : Int) (k : GRes → Option R) : arun Tryz.prog rem64.G rem64.an 0 Tryz.f157 (rem64.st (hi, lo, yv)).1 (rem64.st (hi, lo, yv)).2 k =
  sel (nonzero yv) (
  obind (div64.call ((irem hi yv), lo, yv)) fun x1 =>
  k (rem64.out x1.2)) none := by kernel_rfl


theorem rem64.ok : ∀ d, rem64.Pre d → arun Tryz.prog rem64.G rem64.an 0 Tryz.f157 (rem64.st d).1 (rem64.st d).2 some = some (rem64.out (rem64.add d (rem64.F d))) := by
  rintro ⟨hi, lo, y⟩ ⟨hy, h0, h1, h2, h3⟩
  have h0 : 0 ≤ hi := h0
  have yb : 0 < y := by obtain rfl | rfl | rfl := hy <;> omega
  have z : nonzero y = true := by simp [nonzero]; omega
  have p : div64.Pre (hi % y, lo, y) := ⟨hy, Int.emod_nonneg _ (by omega), Int.emod_lt_of_pos _ yb, h2, h3⟩
  rw [rem64.eq, z, irem_nn h0, div64.run p]
  have e : (hi % y * 18446744073709551616 + lo) % y = (hi * 18446744073709551616 + lo) % y := by
    rw [Int.add_emod, Int.mul_emod, Int.emod_emod_of_dvd _ (Int.dvd_refl y), ← Int.mul_emod, ← Int.add_emod]
  simp only [sel_true, obind_some, div64.add, div64.F, rem64.add, rem64.F, e]

theorem rem64.inj : ∀ d d', rem64.st d = rem64.st d' → d = d' := fun (hi, lo, yv) (hi', lo', yv') hEq => by
  have e0 : hi = hi' := d_inj (t := (.int .u64)) (congrArg (fun s : List AVal × List Ent => (s.1.getD 0 .undef)) hEq)
  have e1 : lo = lo' := d_inj (t := (.int .u64)) (congrArg (fun s : List AVal × List Ent => (s.1.getD 1 .undef)) hEq)
  have e2 : yv = yv' := d_inj (t := (.int .u64)) (congrArg (fun s : List AVal × List Ent => (s.1.getD 2 .undef)) hEq)
  rw [e0, e1, e2]
noncomputable def rem64.E : Entry := Entry.of [some (.int .u64), some (.int .u64), some (.int .u64)] rem64.st rem64.Pre (fun d => rem64.add d (rem64.F d)) rem64.out
noncomputable def rem64.call : rem64.D → Option rem64.X := fun d => rem64.E.run (rem64.st d).1 (rem64.st d).2
theorem rem64.run {d : rem64.D} (h : rem64.Pre d) : rem64.call d = some (rem64.add d (rem64.F d)) := Entry.of_run rem64.inj h
theorem rem64.does : Does Tryz.prog 157 rem64.E := Does.of (by kernel_rfl) (show Sound _ rem64.G from Sound.cons div64.does (Sound.nil _)) (by kernel_rfl) (by kernel_rfl) (by kernel_rfl) (LOk.fn 0 (by kernel_rfl) trivial) rem64.ok

/-! ### math/bits.Mul64 -/
abbrev mul64.D := Int × Int
def mul64.st : mul64.D → List AVal × List Ent := fun (x, yv) => ([.d (.int .u64) x, .d (.int .u64) yv], [])
abbrev mul64.Y := Int × Int
abbrev mul64.X := Int × Int
def mul64.out : mul64.X → GRes := fun x => ⟨.cons (.d (.int .u64) x.1) (.cons (.d (.int .u64) x.2) (.nil)), [], []⟩
def mul64.add : mul64.D → mul64.Y → mul64.X := fun (x, yv) y => y


def mul64.Pre : mul64.D → Prop := fun (x, y) => (0 ≤ x ∧ x < 18446744073709551616) ∧ 0 ≤ y ∧ y < 18446744073709551616
def mul64.F : mul64.D → mul64.Y := fun (x, y) => (x * y / 18446744073709551616, x * y % 18446744073709551616)

noncomputable def mul64.G : Gam := gnil
noncomputable def mul64.an : Ann := {
  objs := [],
  loops := fun r => { keep := [], sites := [], frz := [], data := [], owns := [] },
  outs := fun r b => { keep := [], sites := [], frz := [], data := [], owns := [] },
  sums := fun r => none,
  owns := [],
  trim := [],
  res := [] }
theorem mul64.eq {R : Type} (x : Int) (yv : Int) (k : GRes → Option R) : arun Tryz.prog mul64.G mul64.an 0 Tryz.f168 (mul64.st (x, yv)).1 (mul64.st (x, yv)).2 k =
  k (mul64.out ((iadd .u64 (iadd .u64 (imul .u64 (ishr .u64 x (32 : Int)) (ishr .u64 yv (32 : Int))) (ishr .u64 (iadd .u64 (imul .u64 (ishr .u64 x (32 : Int)) (bitop .and .u64 yv (4294967295 : Int))) (ishr .u64 (imul .u64 (bitop .and .u64 x (4294967295 : Int)) (bitop .and .u64 yv (4294967295 : Int))) (32 : Int))) (32 : Int))) (ishr .u64 (iadd .u64 (bitop .and .u64 (iadd .u64 (imul .u64 (ishr .u64 x (32 : Int)) (bitop .and .u64 yv (4294967295 : Int))) (ishr .u64 (imul .u64 (bitop .and .u64 x (4294967295 : Int)) (bitop .and .u64 yv (4294967295 : Int))) (32 : Int))) (4294967295 : Int)) (imul .u64 (bitop .and .u64 x (4294967295 : Int)) (ishr .u64 yv (32 : Int)))) (32 : Int))), (imul .u64 x yv))) := by kernel_rfl


theorem mul_le {a b m n : Int} (h0 : 0 ≤ a) (h1 : a ≤ m) (h2 : 0 ≤ b) (h3 : b ≤ n) : 0 ≤ a * b ∧ a * b ≤ m * n :=
  ⟨Int.mul_nonneg h0 h2, Int.mul_le_mul h1 h3 h2 (Int.le_trans h0 h1)⟩
theorem mul64.ok : ∀ d, mul64.Pre d → arun Tryz.prog mul64.G mul64.an 0 Tryz.f168 (mul64.st d).1 (mul64.st d).2 some = some (mul64.out (mul64.add d (mul64.F d))) := by
  rintro ⟨x, y⟩ ⟨⟨h0, h1⟩, h2, h3⟩
  have h0 : 0 ≤ x := h0
  have h1 : x < 18446744073709551616 := h1
  have h2 : 0 ≤ y := h2
  have h3 : y < 18446744073709551616 := h3
  rw [mul64.eq]
  have p32 : (2 : Int) ^ 32 = 4294967296 := rfl
  have s32 : ∀ x : Int, ishr .u64 x 32 = x / 4294967296 := fun x => by rw [shr_u64 32 (by rfl) (by omega), p32]
  simp only [s32, and32 h0 h1, and32 h2 h3]
  obtain ⟨a, b, rfl, a0, a1, b0, b1⟩ : ∃ a b : Int, x = a * 4294967296 + b ∧ 0 ≤ a ∧ a ≤ 4294967295 ∧ 0 ≤ b ∧ b ≤ 4294967295 := ⟨x / 4294967296, x % 4294967296, by omega, by omega, by omega, by omega, by omega⟩
  obtain ⟨c, d, rfl, c0, c1, d0, d1⟩ : ∃ a b : Int, y = a * 4294967296 + b ∧ 0 ≤ a ∧ a ≤ 4294967295 ∧ 0 ≤ b ∧ b ≤ 4294967295 := ⟨y / 4294967296, y % 4294967296, by omega, by omega, by omega, by omega, by omega⟩
  have e1 : (a * 4294967296 + b) / 4294967296 = a := by omega
  have e2 : (a * 4294967296 + b) % 4294967296 = b := by omega
  have e3 : (c * 4294967296 + d) / 4294967296 = c := by omega
  have e4 : (c * 4294967296 + d) % 4294967296 = d := by omega
  have e5 : (a * 4294967296 + b) * (c * 4294967296 + d) = a * c * 18446744073709551616 + (a * d + b * c) * 4294967296 + b * d := by
    have q : (4294967296 : Int) * 4294967296 = 18446744073709551616 := rfl
    rw [Int.add_mul, Int.mul_add, Int.mul_add]
    have q1 : a * 4294967296 * (c * 4294967296) = a * c * 18446744073709551616 := by rw [← q]; ac_rfl
    have q2 : a * 4294967296 * d = a * d * 4294967296 := by ac_rfl
    have q3 : b * (c * 4294967296) = b * c * 4294967296 := by ac_rfl
    rw [q1, q2, q3]; omega
  obtain ⟨m1, m2⟩ := mul_le a0 a1 c0 c1
  obtain ⟨m3, m4⟩ := mul_le a0 a1 d0 d1
  obtain ⟨m5, m6⟩ := mul_le b0 b1 c0 c1
  obtain ⟨m7, m8⟩ := mul_le b0 b1 d0 d1
  have n : (4294967295 : Int) * 4294967295 = 18446744065119617025 := rfl
  rw [n] at m2 m4 m6 m8
  simp only [e1, e2, e3, e4, mul64.add, mul64.F, e5, imul_um, iadd_um]
  revert m1 m2 m3 m4 m5 m6 m7 m8
  generalize a * c = ac
  generalize a * d = ad
  generalize b * c = bc
  generalize b * d = bd
  intro m1 m2 m3 m4 m5 m6 m7 m8
  have q1 : bd % 18446744073709551616 = bd := by omega
  have q2 : ad % 18446744073709551616 = ad := by omega
  have q3 : bc % 18446744073709551616 = bc := by omega
  have q4 : ac % 18446744073709551616 = ac := by omega
  rw [q1, q2, q3, q4]
  have q5 : (ad + bd / 4294967296) % 18446744073709551616 = ad + bd / 4294967296 := by omega
  have q6 : bitop .and .u64 (ad + bd / 4294967296) 4294967295 = (ad + bd / 4294967296) % 4294967296 := and32 (by omega) (by omega)
  rw [q5, q6]
  refine congrArg some (congrArg mul64.out (Prod.ext ?_ ?_))
  · show _ = (_ : Int)
    simp only []
    omega
  · rfl

theorem mul64.inj : ∀ d d', mul64.st d = mul64.st d' → d = d' := fun (x, yv) (x', yv') hEq => by
  have e0 : x = x' := d_inj (t := (.int .u64)) (congrArg (fun s : List AVal × List Ent => (s.1.getD 0 .undef)) hEq)
  have e1 : yv = yv' := d_inj (t := (.int .u64)) (congrArg (fun s : List AVal × List Ent => (s.1.getD 1 .undef)) hEq)
  rw [e0, e1]
noncomputable def mul64.E : Entry := Entry.of [some (.int .u64), some (.int .u64)] mul64.st mul64.Pre (fun d => mul64.add d (mul64.F d)) mul64.out
noncomputable def mul64.call : mul64.D → Option mul64.X := fun d => mul64.E.run (mul64.st d).1 (mul64.st d).2
theorem mul64.run {d : mul64.D} (h : mul64.Pre d) : mul64.call d = some (mul64.add d (mul64.F d)) := Entry.of_run mul64.inj h
theorem mul64.does : Does Tryz.prog 168 mul64.E := Does.of (by kernel_rfl) (show Sound _ mul64.G from Sound.nil _) (by kernel_rfl) (by kernel_rfl) (by kernel_rfl) (LOk.fn 0 (by kernel_rfl) trivial) mul64.ok

end Go.Ab
