/-
  Made by a program of mine (wip/gen), and by hand.
-/
import Derived.Test.YtglpcfdjdabdnaaSp0
import Derived.Test.YtglpcfdjdabdnaaProg
namespace Go.Ab
open Go.Proofs
set_option maxRecDepth 100000
set_option linter.unusedVariables false
set_option linter.unusedSimpArgs false


theorem byte_ofInt {x : Int} (h : Byte x) : BitVec.ofInt 32 x = BitVec.ofInt 32 x := rfl

/-! ### corsned/hash.binary -/
abbrev binary.D := (List Int)
def binary.st : binary.D → List AVal × List Ent := fun b => ([.d (.slice (.int .u8)) b], [])
abbrev binary.Y := Int
abbrev binary.X := Int
def binary.out : binary.X → GRes := fun x => ⟨.d (.int .u32) x, [], []⟩
def binary.add : binary.D → binary.Y → binary.X := fun b y => y


def binary.Pre : binary.D → Prop := fun b => 4 ≤ b.length
def binary.F : binary.D → binary.Y := fun b => vw (be4 (b.getD 0 0) (b.getD 1 0) (b.getD 2 0) (b.getD 3 0))

noncomputable def binary.G : Gam := gnil
noncomputable def binary.an : Ann := {
  objs := [],
  loops := fun r => { keep := [], sites := [], frz := [], data := [], owns := [] },
  outs := fun r b => { keep := [], sites := [], frz := [], data := [], owns := [] },
  sums := fun r => none,
  owns := [],
  trim := [],
  res := [] }
theorem binary.eq {R : Type} (b : (List Int)) (k : GRes → Option R) : arun Try.prog binary.G binary.an 0 Try.f88 (binary.st b).1 (binary.st b).2 k =
  sel (inb (0 : Int) (((List.length b) : Nat) : Int)) (
  sel (inb (1 : Int) (((List.length b) : Nat) : Int)) (
  sel (inb (2 : Int) (((List.length b) : Nat) : Int)) (
  sel (inb (3 : Int) (((List.length b) : Nat) : Int)) (
  k (binary.out (bitop .or .u32 (bitop .or .u32 (bitop .or .u32 (ishl .u32 (icv .u32 (nth (.int .u8) b 0)) (24 : Int)) (ishl .u32 (icv .u32 (nth (.int .u8) b 1)) (16 : Int))) (ishl .u32 (icv .u32 (nth (.int .u8) b 2)) (8 : Int))) (icv .u32 (nth (.int .u8) b 3))))) none) none) none) none := by kernel_rfl


theorem binary.ok : ∀ d, binary.Pre d → arun Try.prog binary.G binary.an 0 Try.f88 (binary.st d).1 (binary.st d).2 some = some (binary.out (binary.add d (binary.F d))) := by
  intro b h
  have h : 4 ≤ b.length := h
  rw [binary.eq, inb_true (by omega) (by omega), inb_true (by omega) (by omega), inb_true (by omega) (by omega), inb_true (by omega) (by omega)]
  simp only [sel_true, icv_u32, ishl_u32, bitop_u32]
  rfl

theorem binary.inj : ∀ d d', binary.st d = binary.st d' → d = d' := fun b b' hEq => by
  have e0 : b = b' := d_inj (t := (.slice (.int .u8))) (congrArg (fun s : List AVal × List Ent => (s.1.getD 0 .undef)) hEq)
  rw [e0]
noncomputable def binary.E : Entry := Entry.of [some (.slice (.int .u8))] binary.st binary.Pre (fun d => binary.add d (binary.F d)) binary.out
noncomputable def binary.call : binary.D → Option binary.X := fun d => binary.E.run (binary.st d).1 (binary.st d).2
theorem binary.run {d : binary.D} (h : binary.Pre d) : binary.call d = some (binary.add d (binary.F d)) := Entry.of_run binary.inj h
theorem binary.does : Does Try.prog 88 binary.E := Does.of (by kernel_rfl) (show Sound _ binary.G from Sound.nil _) (by kernel_rfl) (by kernel_rfl) (by kernel_rfl) (LOk.fn 0 (by kernel_rfl) trivial) binary.ok

/-! ### math/bits.RotateLeft32 -/
abbrev rotl32.D := Int × Int
def rotl32.st : rotl32.D → List AVal × List Ent := fun (x, kv) => ([.d (.int .u32) x, .d (.int .i64) kv], [])
abbrev rotl32.Y := Int
abbrev rotl32.X := Int
def rotl32.out : rotl32.X → GRes := fun x => ⟨.d (.int .u32) x, [], []⟩
def rotl32.add : rotl32.D → rotl32.Y → rotl32.X := fun (x, kv) y => y


def rl (w : W) (k : Nat) : W := w <<< k ||| w >>> (32 - k)
def rotl32.Pre : rotl32.D → Prop := fun (x, k) => 0 ≤ x ∧ x < 4294967296
def rotl32.F : rotl32.D → rotl32.Y := fun (x, k) => vw (rl (BitVec.ofInt 32 x) (k % 32).toNat)

noncomputable def rotl32.G : Gam := gnil
noncomputable def rotl32.an : Ann := {
  objs := [],
  loops := fun r => { keep := [], sites := [], frz := [], data := [], owns := [] },
  outs := fun r b => { keep := [], sites := [], frz := [], data := [], owns := [] },
  sums := fun r => none,
  owns := [],
  trim := [],
  res := [] }
theorem rotl32.eq {R : Type} (x : Int) (kv : Int) (k : GRes → Option R) : arun Try.prog rotl32.G rotl32.an 0 Try.f71 (rotl32.st (x, kv)).1 (rotl32.st (x, kv)).2 k =
  sel (nonneg (bitop .and .u64 (icv .u64 kv) (31 : Int))) (
  sel (nonneg (isub .u64 (32 : Int) (bitop .and .u64 (icv .u64 kv) (31 : Int)))) (
  k (rotl32.out (bitop .or .u32 (ishl .u32 x (bitop .and .u64 (icv .u64 kv) (31 : Int))) (ishr .u32 x (isub .u64 (32 : Int) (bitop .and .u64 (icv .u64 kv) (31 : Int))))))) none) none := by kernel_rfl


theorem and31 (k : Int) : bitop .and .u64 (icv .u64 k) 31 = k % 32 := by
  have e : (31 : Int) = vw (31 : BitVec 64) := rfl
  rw [icv_u64, e, bitop_u64]
  simp only
  have : (31 : BitVec 64) = BitVec.ofNat 64 (2 ^ 5 - 1) := rfl
  unfold vw
  rw [BitVec.toNat_and, BitVec.toNat_ofInt, show (31 : BitVec 64).toNat = 2 ^ 5 - 1 from rfl, Nat.and_two_pow_sub_one_eq_mod]
  omega
theorem rotl32.ok : ∀ d, rotl32.Pre d → arun Try.prog rotl32.G rotl32.an 0 Try.f71 (rotl32.st d).1 (rotl32.st d).2 some = some (rotl32.out (rotl32.add d (rotl32.F d))) := by
  rintro ⟨x, k⟩ ⟨h1, h2⟩
  have e1 : isub .u64 32 (k % 32) = 32 - k % 32 := by
    unfold isub
    rw [wrap_u64, vw_ofInt]
    omega
  have hx : x = vw (BitVec.ofInt 32 x) := by rw [vw_ofInt]; omega
  rw [rotl32.eq, and31, e1, nonneg_true (by omega), nonneg_true (by omega)]
  simp only [sel_true]
  have e2 : bitop .or .u32 (ishl .u32 x (k % 32)) (ishr .u32 x (32 - k % 32)) = vw (rl (BitVec.ofInt 32 x) (k % 32).toNat) := by
    conv => lhs; rw [hx]
    rw [ishl_u32, ishr_u32, bitop_u32]
    simp only [rl]
    congr 3
    omega
  rw [e2]
  rfl

theorem rotl32.inj : ∀ d d', rotl32.st d = rotl32.st d' → d = d' := fun (x, kv) (x', kv') hEq => by
  have e0 : x = x' := d_inj (t := (.int .u32)) (congrArg (fun s : List AVal × List Ent => (s.1.getD 0 .undef)) hEq)
  have e1 : kv = kv' := d_inj (t := (.int .i64)) (congrArg (fun s : List AVal × List Ent => (s.1.getD 1 .undef)) hEq)
  rw [e0, e1]
noncomputable def rotl32.E : Entry := Entry.of [some (.int .u32), some (.int .i64)] rotl32.st rotl32.Pre (fun d => rotl32.add d (rotl32.F d)) rotl32.out
noncomputable def rotl32.call : rotl32.D → Option rotl32.X := fun d => rotl32.E.run (rotl32.st d).1 (rotl32.st d).2
theorem rotl32.run {d : rotl32.D} (h : rotl32.Pre d) : rotl32.call d = some (rotl32.add d (rotl32.F d)) := Entry.of_run rotl32.inj h
theorem rotl32.does : Does Try.prog 71 rotl32.E := Does.of (by kernel_rfl) (show Sound _ rotl32.G from Sound.nil _) (by kernel_rfl) (by kernel_rfl) (by kernel_rfl) (LOk.fn 0 (by kernel_rfl) trivial) rotl32.ok


theorem rotl32.at (w : W) (k : Int) : rotl32.call (vw w, k) = some (vw (rl w (k % 32).toNat)) := by
  have h : rotl32.Pre (vw w, k) := ⟨vw_nonneg w, by have := vw_lt w; simpa using this⟩
  rw [rotl32.run h]
  show some (vw (rl (BitVec.ofInt 32 (vw w)) (k % 32).toNat)) = _
  rw [ofInt_vw]

/-! ### corsned/hash.table -/
abbrev table.D := Unit
def table.st : table.D → List AVal × List Ent := fun _ => ([], [])
abbrev table.Y := (List Int)
abbrev table.X := (List Int)
def table.out : table.X → GRes := fun x => ⟨.d (.arr 64 (.int .u32)) x, [], []⟩
def table.add : table.D → table.Y → table.X := fun _ y => y


def table.Pre : table.D → Prop := fun _ => True
def table.F : table.D → table.Y := fun _ => kint

noncomputable def table.G : Gam := gnil
noncomputable def table.an : Ann := {
  objs := [],
  loops := fun r => { keep := [], sites := [], frz := [], data := [], owns := [] },
  outs := fun r b => { keep := [], sites := [], frz := [], data := [], owns := [] },
  sums := fun r => none,
  owns := [],
  trim := [],
  res := [] }
theorem table.eq {R : Type}  (k : GRes → Option R) : arun Try.prog table.G table.an 0 Try.f70 (table.st ()).1 (table.st ()).2 k =
  k (table.out [(1116352408 : Int), (1899447441 : Int), (3049323471 : Int), (3921009573 : Int), (961987163 : Int), (1508970993 : Int), (2453635748 : Int), (2870763221 : Int), (3624381080 : Int), (310598401 : Int), (607225278 : Int), (1426881987 : Int), (1925078388 : Int), (2162078206 : Int), (2614888103 : Int), (3248222580 : Int), (3835390401 : Int), (4022224774 : Int), (264347078 : Int), (604807628 : Int), (770255983 : Int), (1249150122 : Int), (1555081692 : Int), (1996064986 : Int), (2554220882 : Int), (2821834349 : Int), (2952996808 : Int), (3210313671 : Int), (3336571891 : Int), (3584528711 : Int), (113926993 : Int), (338241895 : Int), (666307205 : Int), (773529912 : Int), (1294757372 : Int), (1396182291 : Int), (1695183700 : Int), (1986661051 : Int), (2177026350 : Int), (2456956037 : Int), (2730485921 : Int), (2820302411 : Int), (3259730800 : Int), (3345764771 : Int), (3516065817 : Int), (3600352804 : Int), (4094571909 : Int), (275423344 : Int), (430227734 : Int), (506948616 : Int), (659060556 : Int), (883997877 : Int), (958139571 : Int), (1322822218 : Int), (1537002063 : Int), (1747873779 : Int), (1955562222 : Int), (2024104815 : Int), (2227730452 : Int), (2361852424 : Int), (2428436474 : Int), (2756734187 : Int), (3204031479 : Int), (3329325298 : Int)]) := by kernel_rfl


theorem table.ok : ∀ d, table.Pre d → arun Try.prog table.G table.an 0 Try.f70 (table.st d).1 (table.st d).2 some = some (table.out (table.add d (table.F d))) := by
  intro d _
  rw [table.eq]
  rfl

theorem table.inj : ∀ d d', table.st d = table.st d' → d = d' := fun _ _ _ => rfl
noncomputable def table.E : Entry := Entry.of [] table.st table.Pre (fun d => table.add d (table.F d)) table.out
noncomputable def table.call : table.D → Option table.X := fun d => table.E.run (table.st d).1 (table.st d).2
theorem table.run {d : table.D} (h : table.Pre d) : table.call d = some (table.add d (table.F d)) := Entry.of_run table.inj h
theorem table.does : Does Try.prog 70 table.E := Does.of (by kernel_rfl) (show Sound _ table.G from Sound.nil _) (by kernel_rfl) (by kernel_rfl) (by kernel_rfl) (LOk.fn 0 (by kernel_rfl) trivial) table.ok

/-! ### corsned/hash.first -/
abbrev first.D := Unit
def first.st : first.D → List AVal × List Ent := fun _ => ([], [])
abbrev first.Y := (List Int)
abbrev first.X := (List Int)
def first.out : first.X → GRes := fun x => ⟨.d (.arr 8 (.int .u32)) x, [], []⟩
def first.add : first.D → first.Y → first.X := fun _ y => y


def first.Pre : first.D → Prop := fun _ => True
def first.F : first.D → first.Y := fun _ => first0.l

noncomputable def first.G : Gam := gnil
noncomputable def first.an : Ann := {
  objs := [],
  loops := fun r => { keep := [], sites := [], frz := [], data := [], owns := [] },
  outs := fun r b => { keep := [], sites := [], frz := [], data := [], owns := [] },
  sums := fun r => none,
  owns := [],
  trim := [],
  res := [] }
theorem first.eq {R : Type}  (k : GRes → Option R) : arun Try.prog first.G first.an 0 Try.f54 (first.st ()).1 (first.st ()).2 k =
  k (first.out [(1779033703 : Int), (3144134277 : Int), (1013904242 : Int), (2773480762 : Int), (1359893119 : Int), (2600822924 : Int), (528734635 : Int), (1541459225 : Int)]) := by kernel_rfl


theorem first.ok : ∀ d, first.Pre d → arun Try.prog first.G first.an 0 Try.f54 (first.st d).1 (first.st d).2 some = some (first.out (first.add d (first.F d))) := by
  intro d _
  rw [first.eq]
  rfl

theorem first.inj : ∀ d d', first.st d = first.st d' → d = d' := fun _ _ _ => rfl
noncomputable def first.E : Entry := Entry.of [] first.st first.Pre (fun d => first.add d (first.F d)) first.out
noncomputable def first.call : first.D → Option first.X := fun d => first.E.run (first.st d).1 (first.st d).2
theorem first.run {d : first.D} (h : first.Pre d) : first.call d = some (first.add d (first.F d)) := Entry.of_run first.inj h
theorem first.does : Does Try.prog 54 first.E := Does.of (by kernel_rfl) (show Sound _ first.G from Sound.nil _) (by kernel_rfl) (by kernel_rfl) (by kernel_rfl) (LOk.fn 0 (by kernel_rfl) trivial) first.ok

end Go.Ab
