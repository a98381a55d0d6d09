/-
  Made by a program of mine (wip/gen), and by hand.
-/
import Derived.Test.YtdmpbapgnkdjpaaSe2
namespace Go.Ab
open Go.Proofs
set_option maxRecDepth 100000
set_option linter.unusedVariables false
set_option linter.unusedSimpArgs false

/-! ### corsned/seal.over -/
abbrev sover.L0.D := (List Int) × Nat × Int × Int × (List Int)
def sover.L0.st : sover.L0.D → AS := fun (b_2, outL, t12, t13, n10) => ⟨[.undef, .d (.slice (.int .u8)) b_2, .undef, .undef, .undef, .sref (.new 10 0) 0 [] 0 0 outL, .undef, .undef, .undef, .undef, .undef, .undef, .d (.int .i64) t12, .d (.int .i64) t13, .undef, .undef, .undef, .undef, .undef, .undef, .undef, .undef, .undef, .undef, .undef, .undef, .undef, .undef], [], [[], [], [], [], [], [], [], [], [], [], [.obj 0 false (.vec 5 (.int .u8) n10)], [], [], [], [], [], [], [], [], [], [], [], [], [], [], [], [], []]⟩
abbrev sover.L0.Y0 := (List Int)  -- n10
abbrev sover.L0.X0 := (Nat) × ((List Int))
def sover.L0.ex0 : sover.L0.X0 → Exit × AS := fun x => (.exit 0, ⟨[.undef, .undef, .undef, .undef, .undef, .sref (.new 10 0) 0 [] 0 0 x.1, .undef, .undef, .undef, .undef, .undef, .undef, .undef, .undef, .undef, .undef, .undef, .undef, .undef, .undef, .undef, .undef, .undef, .undef, .undef, .undef, .undef, .undef], [], [[], [], [], [], [], [], [], [], [], [], [.obj 0 false (.vec 5 (.int .u8) x.2)], [], [], [], [], [], [], [], [], [], [], [], [], [], [], [], [], []]⟩)
abbrev sover.L0.X := sover.L0.X0
abbrev sover.L0.Y := sover.L0.Y0
def sover.L0.out : sover.L0.X → Out (Exit × AS) := fun x => .ok (sover.L0.ex0 x)
def sover.L0.add : sover.L0.D → sover.L0.Y → sover.L0.X := fun (b_2, outL, t12, t13, n10) y => (outL, y)
abbrev sover.D := (List Int) × (List Int)
def sover.st : sover.D → List AVal × List Ent := fun (key, b) => ([.d (.arr 32 (.int .u8)) key, .d (.slice (.int .u8)) b], [])
abbrev sover.Y := Nat × (List Int)
abbrev sover.X := Nat × (List Int)
def sover.out : sover.X → GRes := fun x => ⟨.sref (.new 0 0) 0 [] 0 0 x.1, [], [.obj 0 false (.vec 5 (.int .u8) x.2)]⟩
def sover.add : sover.D → sover.Y → sover.X := fun (key, b) y => y


def xf (b : List Int) (i : Nat) (x : Int) : Int := if i < b.length then bitop .xor .u8 x (nth (.int .u8) b i) else x
def ov (key b : List Int) : List Int := from_ (xf b) 0 (strmT key b.length)
def sover.L0.Pre : sover.L0.D → Prop := fun (b, m, n, i, l) => m = b.length ∧ b.length ≤ l.length ∧ n = b.length ∧ b.length ≤ 65536 ∧ ∃ k : Nat, k ≤ b.length ∧ i = k
def sover.L0.F : sover.L0.D → sover.L0.Y := fun (b, m, n, i, l) => from_ (xf b) i.toNat l
def sover.Pre : sover.D → Prop := fun (key, b) => key.length = 32 ∧ b.length ≤ 65536
def sover.F : sover.D → sover.Y := fun (key, b) => (b.length, ov key b)

noncomputable def sover.G : Gam := gcons 16 anyArgs sstream.E (gnil)
noncomputable def sover.L0.E : LEntry := LEntry.of sover.L0.st sover.L0.Pre (fun d => sover.L0.add d (sover.L0.F d)) sover.L0.out
noncomputable def sover.L0.call : sover.L0.D → Option sover.L0.X := fun d => sover.L0.E.run (sover.L0.st d)
noncomputable def sover.an : Ann := {
  objs := [],
  loops := fun r => bif Nat.beq r 3 then { keep := [1, 5, 12, 13], sites := [10], frz := [], data := [], owns := [] } else { keep := [], sites := [], frz := [], data := [], owns := [] },
  outs := fun r b => bif Nat.beq r 3 then (bif b then { keep := [4], sites := [], frz := [], data := [], owns := [] } else { keep := [5], sites := [10], frz := [], data := [], owns := [] }) else { keep := [], sites := [], frz := [], data := [], owns := [] },
  sums := fun r => bif Nat.beq r 3 then some sover.L0.E else none,
  owns := [],
  trim := [],
  res := [] }
theorem sover.L0.inj : ∀ d d', sover.L0.st d = sover.L0.st d' → d = d' := fun (b_2, outL, t12, t13, n10) (b_2', outL', t12', t13', n10') hEq => by
  have e0 : b_2 = b_2' := d_inj (t := (.slice (.int .u8))) (congrArg (fun s : AS => (s.slot 1)) hEq)
  have e1 : outL = outL' := congrArg (fun s : AS => srefLen (s.slot 5)) hEq
  have e2 : t12 = t12' := d_inj (t := (.int .i64)) (congrArg (fun s : AS => (s.slot 12)) hEq)
  have e3 : t13 = t13' := d_inj (t := (.int .i64)) (congrArg (fun s : AS => (s.slot 13)) hEq)
  have e4 : n10 = n10' := vec_inj (e := 5) (t := (.int .u8)) (congrArg (fun s : AS => (entC (s.ent (.new 10 0)))) hEq)
  rw [e0, e1, e2, e3, e4]
theorem sover.L0.run {d : sover.L0.D} (h : sover.L0.Pre d) : sover.L0.call d = some (sover.L0.add d (sover.L0.F d)) := LEntry.of_run sover.L0.inj h
theorem sover.L0.byRounds (μ : sover.L0.D → Nat) (h : ∀ d, sover.L0.Pre d → (∃ d', sover.L0.Pre d' ∧ μ d' < μ d ∧ sover.L0.add d' (sover.L0.F d') = sover.L0.add d (sover.L0.F d) ∧ ∀ {R : Type} (kn : AS → Option R) (kx : Exit → AS → Option R), lround Try.prog sover.G sover.an 0 Try.f32 0 (sover.L0.st d) kn kx = kn (sover.L0.st d')) ∨ (∀ {R : Type} (kn : AS → Option R) (kx : Exit → AS → Option R), lround Try.prog sover.G sover.an 0 Try.f32 0 (sover.L0.st d) kn kx = kx (sover.L0.ex0 (sover.L0.add d (sover.L0.F d))).1 (sover.L0.ex0 (sover.L0.add d (sover.L0.F d))).2)) : ∀ d, sover.L0.Pre d → ∃ n, lrun Try.prog sover.G sover.an 0 Try.f32 0 n (sover.L0.st d) (fun e s => some (e, s)) = (sover.L0.out (sover.L0.add d (sover.L0.F d))).eval := lrun_one (F := fun d => sover.L0.add d (sover.L0.F d)) μ h
theorem sover.L0.step {R : Type} (b_2 : (List Int)) (outL : Nat) (t12 : Int) (t13 : Int) (n10 : (List Int)) (kn : AS → Option R) (kx : Exit → AS → Option R) : lround Try.prog sover.G sover.an 0 Try.f32 0 (sover.L0.st (b_2, outL, t12, t13, n10)) kn kx =
  sel ((ilt t13 t12)) (
   sel (inb t13 ((outL : Nat) : Int)) (
   sel (decide ((0 + (Int.toNat t13)) < (List.length n10))) (
   sel (decide ((((0 + (Int.toNat t13)) * 1) + 0) = (0 + ((Int.toNat t13) * 1)))) (
   sel (inb t13 (((List.length b_2) : Nat) : Int)) (
   sel (inb t13 ((outL : Nat) : Int)) (
   sel (decide ((0 + (Int.toNat t13)) < (List.length n10))) (
   sel (decide ((((0 + (Int.toNat t13)) * 1) + 0) = (0 + ((Int.toNat t13) * 1)))) (
   sel (decide ((0 + (Int.toNat t13)) < (List.length n10))) (
   kn (sover.L0.st (b_2, outL, t12, (iadd .i64 t13 (1 : Int)), (List.set n10 (0 + (Int.toNat t13)) (bitop .xor .u8 (nth (.int .u8) n10 (0 + (Int.toNat t13))) (nth (.int .u8) b_2 (Int.toNat t13))))))) none) none) none) none) none) none) none) none) (
   kx (sover.L0.ex0 (outL, n10)).1 (sover.L0.ex0 (outL, n10)).2) := by kernel_rfl
theorem sover.eq {R : Type} (key : (List Int)) (b : (List Int)) (k : GRes → Option R) : arun Try.prog sover.G sover.an 0 Try.f32 (sover.st (key, b)).1 (sover.st (key, b)).2 k =
  obind (sstream.call (key, (((List.length b) : Nat) : Int))) fun x1 =>
  obind (sover.L0.call (b, x1.1, (((List.length b) : Nat) : Int), (0 : Int), x1.2)) fun x2 =>
  k (sover.out (x2.1, x2.2)) := by kernel_rfl


theorem from_length {α : Type} (f : Nat → α → α) (t : Nat) (l : List α) : (from_ f t l).length = l.length := by simp [from_]
theorem from_fix {α : Type} (f : Nat → α → α) (t : Nat) (l : List α) (h : ∀ i x, t ≤ i → f i x = x) : from_ f t l = l := by
  unfold from_
  apply List.ext_getElem (by simp)
  intro i h1 h2
  simp only [List.getElem_mapIdx]
  split
  · rfl
  · exact h i _ (by omega)
theorem ov_length (key b : List Int) : (ov key b).length = b.length := by
  unfold ov
  rw [from_length, strmT_length]
theorem sover.L0.ok : ∀ d, sover.L0.Pre d → ∃ n, lrun Try.prog sover.G sover.an 0 Try.f32 0 n (sover.L0.st d) (fun e s => some (e, s)) = (sover.L0.out (sover.L0.add d (sover.L0.F d))).eval := by
  refine sover.L0.byRounds (fun (b, m, n, i, l) => b.length - i.toNat) ?_
  rintro ⟨b, m, n, i, l⟩ ⟨rfl, hbl, rfl, hb, k, hk, rfl⟩
  have hbl : b.length ≤ l.length := hbl
  have hb : b.length ≤ 65536 := hb
  have hk : k ≤ b.length := hk
  have e2 : Int.toNat (k : Int) = k := by omega
  have e3 : Int.toNat ((k + 1 : Nat) : Int) = k + 1 := by omega
  by_cases h : k < b.length
  · left
    have e1 : iadd .i64 (k : Int) 1 = ((k + 1 : Nat) : Int) := by rw [iadd_i64 (by omega) (by omega)]; omega
    have hn : nth (.int .u8) l k = l[k] := nth_lt (t := .int .u8) (by omega)
    have hx : xf b k l[k] = bitop .xor .u8 l[k] (nth (.int .u8) b k) := if_pos h
    refine ⟨(b, b.length, (b.length : Int), ((k + 1 : Nat) : Int), l.set k (xf b k l[k])), ⟨rfl, by simpa using hbl, rfl, hb, k + 1, by omega, rfl⟩, by show b.length - Int.toNat ((k + 1 : Nat) : Int) < b.length - Int.toNat (k : Int); omega, ?_, fun kn kx => ?_⟩
    · simp only [sover.L0.add, sover.L0.F, e2, e3]
      rw [from_step (xf b) l k (by omega)]
    · have d0 : decide (k < l.length) = true := dec_true (by omega)
      have i0 : inb (k : Int) ((b.length : Nat) : Int) = true := inb_true (by omega) (by omega)
      rw [sover.L0.step, ilt_true (by omega)]
      simp only [e1, e2, Nat.mul_one, Nat.zero_add, Nat.add_zero, decide_true, sel_true, d0, i0, hn, hx]
  · right
    obtain rfl : k = b.length := by omega
    intro R kn kx
    rw [sover.L0.step, ilt_false (by omega)]
    simp only [sel_false, sover.L0.add, sover.L0.F, e2]
    rw [from_fix (xf b) b.length l fun i x hi => if_neg (by omega)]
theorem sover.ok : ∀ d, sover.Pre d → arun Try.prog sover.G sover.an 0 Try.f32 (sover.st d).1 (sover.st d).2 some = some (sover.out (sover.add d (sover.F d))) := by
  rintro ⟨key, b⟩ ⟨hk, hb⟩
  have hk : key.length = 32 := hk
  have hb : b.length ≤ 65536 := hb
  have hl := strmT_length key b.length
  have p0 : sstream.Pre (key, (b.length : Int)) := hk
  have p1 : sover.L0.Pre (b, b.length, (b.length : Int), 0, strmT key b.length) := ⟨rfl, by show b.length ≤ _; omega, rfl, hb, 0, by omega, rfl⟩
  have e : ((b.length : Nat) : Int).toNat = b.length := by omega
  rw [sover.eq, sstream.run p0]
  simp only [sstream.add, sstream.F]
  rw [if_neg (by omega), e]
  simp only [obind_some, sover.L0.run p1, sover.L0.add, sover.L0.F, sover.add, sover.F, Int.toNat_zero, ov]

theorem sover.inj : ∀ d d', sover.st d = sover.st d' → d = d' := fun (key, b) (key', b') hEq => by
  have e0 : key = key' := d_inj (t := (.arr 32 (.int .u8))) (congrArg (fun s : List AVal × List Ent => (s.1.getD 0 .undef)) hEq)
  have e1 : b = b' := d_inj (t := (.slice (.int .u8))) (congrArg (fun s : List AVal × List Ent => (s.1.getD 1 .undef)) hEq)
  rw [e0, e1]
noncomputable def sover.E : Entry := Entry.of [some (.arr 32 (.int .u8)), some (.slice (.int .u8))] sover.st sover.Pre (fun d => sover.add d (sover.F d)) sover.out
noncomputable def sover.call : sover.D → Option sover.X := fun d => sover.E.run (sover.st d).1 (sover.st d).2
theorem sover.run {d : sover.D} (h : sover.Pre d) : sover.call d = some (sover.add d (sover.F d)) := Entry.of_run sover.inj h
theorem sover.does : Does Try.prog 32 sover.E := Does.of (by kernel_rfl) (show Sound _ sover.G from Sound.cons sstream.does (Sound.nil _)) (by kernel_rfl) (by kernel_rfl) (by kernel_rfl) (LOk.fn 1 (by kernel_rfl) (And.intro (LDo.of (by kernel_rfl) sover.L0.ok) trivial)) sover.ok

/-! ### corsned/seal.tag -/
abbrev stag.D := (List Int) × (List Int)
def stag.st : stag.D → List AVal × List Ent := fun (key, hidden) => ([.d (.arr 32 (.int .u8)) key, .d (.slice (.int .u8)) hidden], [])
abbrev stag.Y := (List Int)
abbrev stag.X := (List Int)
def stag.out : stag.X → GRes := fun x => ⟨.d (.arr 8 (.int .u8)) x, [], []⟩
def stag.add : stag.D → stag.Y → stag.X := fun (key, hidden) y => y


/-- 'seal' -/
def lname : List Int := [115, 101, 97, 108]
def mk8 (key hidden : List Int) : List Int := (tag lname [key, hidden]).take 8
def stag.Pre : stag.D → Prop := fun (key, h) => key.length = 32 ∧ h.length ≤ 1000000
def stag.F : stag.D → stag.Y := fun (key, h) => mk8 key h

noncomputable def stag.G : Gam := gcons 20 anyArgs htag.E (gnil)
noncomputable def stag.an : Ann := {
  objs := [],
  loops := fun r => { keep := [], sites := [], frz := [], data := [], owns := [] },
  outs := fun r b => { keep := [], sites := [], frz := [], data := [], owns := [] },
  sums := fun r => none,
  owns := [],
  trim := [],
  res := [] }
theorem stag.eq {R : Type} (key : (List Int)) (hidden : (List Int)) (k : GRes → Option R) : arun Try.prog stag.G stag.an 0 Try.f31 (stag.st (key, hidden)).1 (stag.st (key, hidden)).2 k =
  obind (htag.call ((⟨#[115, 101, 97, 108]⟩ : ByteArray), [(cut key 0 32), hidden])) fun x1 =>
  sel (decide (some 32 = some (List.length x1) ∧ 0 = 0)) (
  sel (decide (0 = 0 ∧ 8 ≤ (List.length x1))) (
  sel (decide (8 ≤ (List.length (cut x1 0 8)))) (
  k (stag.out (List.take 8 (cut x1 0 8)))) none) none) none := by kernel_rfl


theorem mk8_length (key h : List Int) : (mk8 key h).length = 8 := rfl
theorem stag.ok : ∀ d, stag.Pre d → arun Try.prog stag.G stag.an 0 Try.f31 (stag.st d).1 (stag.st d).2 some = some (stag.out (stag.add d (stag.F d))) := by
  rintro ⟨key, h⟩ ⟨hk, hh⟩
  have hk : key.length = 32 := hk
  have hh : h.length ≤ 1000000 := hh
  have p : htag.Pre ((⟨#[115, 101, 97, 108]⟩ : ByteArray), [key, h]) := by
    show (tagb _ [key, h]).length ≤ _
    rw [tagb]
    simp only [tagp, List.flatMap_cons, List.flatMap_nil, List.length_append, be8_length, bytesOfStr_length, List.append_nil]
    show 8 + 4 + _ ≤ _
    omega
  have hx : htag.add ((⟨#[115, 101, 97, 108]⟩ : ByteArray), [key, h]) (htag.F ((⟨#[115, 101, 97, 108]⟩ : ByteArray), [key, h])) = tag lname [key, h] := rfl
  have hl : (tag lname [key, h]).length = 32 := rfl
  have hc : cut (tag lname [key, h]) 0 8 = mk8 key h := rfl
  have ht : List.take 8 (mk8 key h) = mk8 key h := List.take_of_length_le (by rw [mk8_length]; omega)
  rw [stag.eq, cut_all key 32 (by omega), htag.run p, hx]
  simp only [obind_some]
  rw [hc, ht, hl, mk8_length, dec_true (by simp), dec_true (by simp), dec_true (by omega)]
  rfl

theorem stag.inj : ∀ d d', stag.st d = stag.st d' → d = d' := fun (key, hidden) (key', hidden') hEq => by
  have e0 : key = key' := d_inj (t := (.arr 32 (.int .u8))) (congrArg (fun s : List AVal × List Ent => (s.1.getD 0 .undef)) hEq)
  have e1 : hidden = hidden' := d_inj (t := (.slice (.int .u8))) (congrArg (fun s : List AVal × List Ent => (s.1.getD 1 .undef)) hEq)
  rw [e0, e1]
noncomputable def stag.E : Entry := Entry.of [some (.arr 32 (.int .u8)), some (.slice (.int .u8))] stag.st stag.Pre (fun d => stag.add d (stag.F d)) stag.out
noncomputable def stag.call : stag.D → Option stag.X := fun d => stag.E.run (stag.st d).1 (stag.st d).2
theorem stag.run {d : stag.D} (h : stag.Pre d) : stag.call d = some (stag.add d (stag.F d)) := Entry.of_run stag.inj h
theorem stag.does : Does Try.prog 31 stag.E := Does.of (by kernel_rfl) (show Sound _ stag.G from Sound.cons htag.does (Sound.nil _)) (by kernel_rfl) (by kernel_rfl) (by kernel_rfl) (LOk.fn 0 (by kernel_rfl) trivial) stag.ok

/-! ### corsned/seal.Seal -/
abbrev sseal.D := (List Int) × (List Int)
def sseal.st : sseal.D → List AVal × List Ent := fun (key, plain) => ([.d (.arr 32 (.int .u8)) key, .d (.slice (.int .u8)) plain], [])
abbrev sseal.Y := (List Int)
abbrev sseal.X := (List Int)
def sseal.out : sseal.X → GRes := fun x => ⟨.d (.slice (.int .u8)) x, [], []⟩
def sseal.add : sseal.D → sseal.Y → sseal.X := fun (key, plain) y => y


/-- What is sealed. -/
def sld (key b : List Int) : List Int := ov key b ++ mk8 key (ov key b)
def sseal.Pre : sseal.D → Prop := fun (key, b) => key.length = 32
def sseal.F : sseal.D → sseal.Y := fun (key, b) => if 65536 < b.length then [] else sld key b

noncomputable def sseal.G : Gam := gcons 32 anyArgs sover.E (gcons 31 anyArgs stag.E (gnil))
noncomputable def sseal.an : Ann := {
  objs := [],
  loops := fun r => { keep := [], sites := [], frz := [], data := [], owns := [] },
  outs := fun r b => { keep := [], sites := [], frz := [], data := [], owns := [] },
  sums := fun r => none,
  owns := [],
  trim := [],
  res := [some (.slice (.int .u8))] }
theorem sseal.eq {R : Type} (key : (List Int)) (plain : (List Int)) (k : GRes → Option R) : arun Try.prog sseal.G sseal.an 0 Try.f18 (sseal.st (key, plain)).1 (sseal.st (key, plain)).2 k =
  sel ((igt (((List.length plain) : Nat) : Int) (65536 : Int))) (
   k (sseal.out ([] : List Int))) (
   obind (sover.call (key, plain)) fun x1 =>
   sel (decide (0 = 0 ∧ (0 + x1.1) ≤ (List.length x1.2))) (
   obind (stag.call (key, (cut x1.2 0 x1.1))) fun x2 =>
   sel (decide (some 8 = some (List.length x2) ∧ 0 = 0)) (
   sel (decide (0 = 0 ∧ 8 ≤ (List.length x2))) (
   sel (decide (x1.1 ≤ (List.length x1.2))) (
   sel (decide (x1.1 = (List.length x1.2))) (
   sel (roomA (x1.1 + (List.length (cut x2 0 8))) 1) (
   sel (decide (0 = 0 ∧ (0 + (x1.1 + (List.length (cut x2 0 8)))) ≤ (List.length ((List.take x1.1 x1.2) ++ (cut x2 0 8))))) (
   k (sseal.out (cut ((List.take x1.1 x1.2) ++ (cut x2 0 8)) 0 (x1.1 + (List.length (cut x2 0 8)))))) none) none) none) none) none) none) none) := by kernel_rfl


theorem sld_length (key b : List Int) : (sld key b).length = b.length + 8 := by
  unfold sld
  rw [List.length_append, ov_length, mk8_length]
theorem cut8 (key h : List Int) : cut (mk8 key h) 0 8 = mk8 key h := cut_all _ _ (by rw [mk8_length]; omega)
theorem sseal.ok : ∀ d, sseal.Pre d → arun Try.prog sseal.G sseal.an 0 Try.f18 (sseal.st d).1 (sseal.st d).2 some = some (sseal.out (sseal.add d (sseal.F d))) := by
  rintro ⟨key, b⟩ hk
  have hk : key.length = 32 := hk
  rw [sseal.eq]
  simp only [sseal.add, sseal.F]
  by_cases h : 65536 < b.length
  · rw [igt_true (by omega), if_pos h]; rfl
  · have p1 : sover.Pre (key, b) := ⟨hk, by show b.length ≤ _; omega⟩
    have p2 : stag.Pre (key, ov key b) := ⟨hk, by show (ov key b).length ≤ _; rw [ov_length]; omega⟩
    have hc : cut (ov key b) 0 b.length = ov key b := cut_all _ _ (by rw [ov_length]; omega)
    have ht : List.take b.length (ov key b) = ov key b := List.take_of_length_le (by rw [ov_length]; omega)
    have hs : cut (sld key b) 0 (b.length + 8) = sld key b := cut_all _ _ (by rw [sld_length]; omega)
    have hsd : ov key b ++ mk8 key (ov key b) = sld key b := rfl
    rw [igt_false (by omega), if_neg h, sover.run p1]
    simp only [sel_false, obind_some, sover.add, sover.F, hc, stag.run p2, stag.add, stag.F, cut8, ht, hsd, mk8_length, sld_length, ov_length, hs]
    rw [room1 (by omega)]
    simp

theorem sseal.inj : ∀ d d', sseal.st d = sseal.st d' → d = d' := fun (key, plain) (key', plain') hEq => by
  have e0 : key = key' := d_inj (t := (.arr 32 (.int .u8))) (congrArg (fun s : List AVal × List Ent => (s.1.getD 0 .undef)) hEq)
  have e1 : plain = plain' := d_inj (t := (.slice (.int .u8))) (congrArg (fun s : List AVal × List Ent => (s.1.getD 1 .undef)) hEq)
  rw [e0, e1]
noncomputable def sseal.E : Entry := Entry.of [some (.arr 32 (.int .u8)), some (.slice (.int .u8))] sseal.st sseal.Pre (fun d => sseal.add d (sseal.F d)) sseal.out
noncomputable def sseal.call : sseal.D → Option sseal.X := fun d => sseal.E.run (sseal.st d).1 (sseal.st d).2
theorem sseal.run {d : sseal.D} (h : sseal.Pre d) : sseal.call d = some (sseal.add d (sseal.F d)) := Entry.of_run sseal.inj h
theorem sseal.does : Does Try.prog 18 sseal.E := Does.of (by kernel_rfl) (show Sound _ sseal.G from Sound.cons sover.does (Sound.cons stag.does (Sound.nil _))) (by kernel_rfl) (by kernel_rfl) (by kernel_rfl) (LOk.fn 0 (by kernel_rfl) trivial) sseal.ok

/-! ### corsned/seal.Open -/
abbrev sopen.D := (List Int) × (List Int)
def sopen.st : sopen.D → List AVal × List Ent := fun (key, sealed) => ([.d (.arr 32 (.int .u8)) key, .d (.slice (.int .u8)) sealed], [])
abbrev sopen.Y := Nat × Bool × (List Int)
abbrev sopen.X := Nat × Bool × (List Int)
def sopen.out : sopen.X → GRes := fun x => ⟨.cons (.sref (.new 0 0) 0 [] 0 0 x.1) (.cons (.d .bool x.2.1) (.nil)), [], [.obj 0 false (.vec 5 (.int .u8) x.2.2)]⟩
def sopen.add : sopen.D → sopen.Y → sopen.X := fun (key, sealed) y => y


/-- Whether it is opened. -/
def opn (key s : List Int) : Bool := decide (8 ≤ s.length ∧ s.length ≤ 65544 ∧ mk8 key (s.take (s.length - 8)) = s.drop (s.length - 8))
def sopen.Pre : sopen.D → Prop := fun (key, s) => key.length = 32 ∧ s.length ≤ 9223372036854775807
def sopen.F : sopen.D → sopen.Y := fun (key, s) => if opn key s then (s.length - 8, true, ov key (s.take (s.length - 8))) else (0, false, [])

noncomputable def sopen.G : Gam := gcons 31 anyArgs stag.E (gcons 32 anyArgs sover.E (gnil))
noncomputable def sopen.an : Ann := {
  objs := [],
  loops := fun r => { keep := [], sites := [], frz := [], data := [], owns := [] },
  outs := fun r b => { keep := [], sites := [], frz := [], data := [], owns := [] },
  sums := fun r => none,
  owns := [⟨4, [], 33, 24⟩],
  trim := [],
  res := [] }
theorem sopen.eq {R : Type} (key : (List Int)) (sealed : (List Int)) (k : GRes → Option R) : arun Try.prog sopen.G sopen.an 0 Try.f14 (sopen.st (key, sealed)).1 (sopen.st (key, sealed)).2 k =
  sel ((ilt (isub .i64 (((List.length sealed) : Nat) : Int) (8 : Int)) (0 : Int))) (
   k (sopen.out (0, false, ([] : List Int)))) (
   sel ((igt (isub .i64 (((List.length sealed) : Nat) : Int) (8 : Int)) (65536 : Int))) (
    k (sopen.out (0, false, ([] : List Int)))) (
    sel (inc (isub .i64 (((List.length sealed) : Nat) : Int) (8 : Int)) (((List.length sealed) : Nat) : Int)) (
    obind (stag.call (key, (cut sealed 0 ((Int.toNat (isub .i64 (((List.length sealed) : Nat) : Int) (8 : Int))) - 0)))) fun x1 =>
    sel (inc (isub .i64 (((List.length sealed) : Nat) : Int) (8 : Int)) (((List.length sealed) : Nat) : Int)) (
    sel (decide (8 ≤ (List.length (cut sealed (Int.toNat (isub .i64 (((List.length sealed) : Nat) : Int) (8 : Int))) ((List.length sealed) - (Int.toNat (isub .i64 (((List.length sealed) : Nat) : Int) (8 : Int)))))))) (
    sel ((!(Ty.beq (.arr 8 (.int .u8)) x1 (List.take 8 (cut sealed (Int.toNat (isub .i64 (((List.length sealed) : Nat) : Int) (8 : Int))) ((List.length sealed) - (Int.toNat (isub .i64 (((List.length sealed) : Nat) : Int) (8 : Int))))))))) (
     k (sopen.out (0, false, ([] : List Int)))) (
     sel (inc (isub .i64 (((List.length sealed) : Nat) : Int) (8 : Int)) (((List.length sealed) : Nat) : Int)) (
     obind (sover.call (key, (cut sealed 0 ((Int.toNat (isub .i64 (((List.length sealed) : Nat) : Int) (8 : Int))) - 0)))) fun x2 =>
     k (sopen.out (x2.1, true, x2.2))) none)) none) none) none)) := by kernel_rfl


theorem listBeq_int : ∀ (x y : List Int), listBeq (fun a b : Int => a == b) x y = decide (x = y)
  | [], [] => rfl
  | [], _ :: _ => rfl
  | _ :: _, [] => rfl
  | a :: x, b :: y => by
    rw [listBeq, listBeq_int x y]
    by_cases h : a = b <;> by_cases h2 : x = y <;> simp [h, h2]
theorem beq_arr (n : Nat) (k : IntKind) (x y : List Int) : Ty.beq (.arr n (.int k)) x y = decide (x = y) := listBeq_int x y
theorem sopen.ok : ∀ d, sopen.Pre d → arun Try.prog sopen.G sopen.an 0 Try.f14 (sopen.st d).1 (sopen.st d).2 some = some (sopen.out (sopen.add d (sopen.F d))) := by
  rintro ⟨key, s⟩ ⟨hk, hs⟩
  have hk : key.length = 32 := hk
  have hs : s.length ≤ 9223372036854775807 := hs
  have e8 : isub .i64 ((s.length : Nat) : Int) 8 = (s.length : Int) - 8 := isub_i64 (by omega) (by omega)
  rw [sopen.eq, e8]
  simp only [sopen.add, sopen.F]
  by_cases h0 : (s.length : Int) - 8 < 0
  · have ho : opn key s = false := dec_false fun h => by have := h.1; omega
    rw [ilt_true h0, ho]; rfl
  by_cases h1 : (s.length : Int) - 8 > 65536
  · have ho : opn key s = false := dec_false fun h => by have := h.2.1; omega
    rw [ilt_false h0, igt_true h1, ho]; rfl
  have e : Int.toNat ((s.length : Int) - 8) = s.length - 8 := by omega
  have hc : cut s 0 (s.length - 8) = s.take (s.length - 8) := by unfold cut; rw [List.drop_zero]
  have hd : cut s (s.length - 8) (s.length - (s.length - 8)) = s.drop (s.length - 8) := by unfold cut; rw [List.take_of_length_le (by simp)]
  have hdl : (s.drop (s.length - 8)).length = 8 := by simp; omega
  have htl : (s.take (s.length - 8)).length = s.length - 8 := by simp
  have p1 : stag.Pre (key, s.take (s.length - 8)) := ⟨hk, by show (s.take (s.length - 8)).length ≤ _; omega⟩
  have p2 : sover.Pre (key, s.take (s.length - 8)) := ⟨hk, by show (s.take (s.length - 8)).length ≤ _; omega⟩
  rw [ilt_false h0, igt_false h1, inc_true (by omega) (by omega), e, hd, Nat.sub_zero, hc, List.take_of_length_le (by omega : (s.drop (s.length - 8)).length ≤ 8), hdl]
  simp only [sel_false, sel_true, stag.run p1, obind_some, stag.add, stag.F, beq_arr, Nat.le_refl, decide_true]
  by_cases hm : mk8 key (s.take (s.length - 8)) = s.drop (s.length - 8)
  · have ho : opn key s = true := dec_true ⟨by omega, by omega, hm⟩
    rw [dec_true hm, ho]
    simp only [Bool.not_true, sel_false, sover.run p2, obind_some, sover.add, sover.F, htl, if_true]
  · have ho : opn key s = false := dec_false fun h => hm h.2.2
    rw [dec_false hm, ho]
    simp

theorem sopen.inj : ∀ d d', sopen.st d = sopen.st d' → d = d' := fun (key, sealed) (key', sealed') hEq => by
  have e0 : key = key' := d_inj (t := (.arr 32 (.int .u8))) (congrArg (fun s : List AVal × List Ent => (s.1.getD 0 .undef)) hEq)
  have e1 : sealed = sealed' := d_inj (t := (.slice (.int .u8))) (congrArg (fun s : List AVal × List Ent => (s.1.getD 1 .undef)) hEq)
  rw [e0, e1]
noncomputable def sopen.E : Entry := Entry.of [some (.arr 32 (.int .u8)), some (.slice (.int .u8))] sopen.st sopen.Pre (fun d => sopen.add d (sopen.F d)) sopen.out
noncomputable def sopen.call : sopen.D → Option sopen.X := fun d => sopen.E.run (sopen.st d).1 (sopen.st d).2
theorem sopen.run {d : sopen.D} (h : sopen.Pre d) : sopen.call d = some (sopen.add d (sopen.F d)) := Entry.of_run sopen.inj h
theorem sopen.does : Does Try.prog 14 sopen.E := Does.of (by kernel_rfl) (show Sound _ sopen.G from Sound.cons stag.does (Sound.cons sover.does (Sound.nil _))) (by kernel_rfl) (by kernel_rfl) (by kernel_rfl) (LOk.fn 0 (by kernel_rfl) trivial) sopen.ok

end Go.Ab
