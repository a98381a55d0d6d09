/-
  Made by a program of mine (wip/gen), and by hand.
-/
import Derived.Test.YtglpcfdjdabdnaaHa1
namespace Go.Ab
open Go.Proofs
set_option maxRecDepth 100000
set_option linter.unusedVariables false
set_option linter.unusedSimpArgs false

/-! ### corsned/hash.schedule -/
abbrev schedule.L0.D := (List Int) × Int × (List Int)
def schedule.L0.st : schedule.L0.D → AS := fun (b_2, t8, n2) => ⟨([.d (.slice (.int .u8)) b_2, .undef, .ptr (.new 2 0) 0 [] 0] ++ undN 5 ([.d (.int .i64) t8] ++ undN 52 [])), [], ([[], [], [.obj 0 false (.d (.arr 64 (.int .u32)) n2)]] ++ nilN 58 [])⟩
abbrev schedule.L0.Y0 := (List Int)  -- n2
abbrev schedule.L0.X0 := (List Int)
def schedule.L0.ex0 : schedule.L0.X0 → Exit × AS := fun x => (.exit 0, ⟨([.undef, .undef, .ptr (.new 2 0) 0 [] 0] ++ undN 58 []), [], ([[], [], [.obj 0 false (.d (.arr 64 (.int .u32)) x)]] ++ nilN 58 [])⟩)
abbrev schedule.L0.X := schedule.L0.X0
abbrev schedule.L0.Y := schedule.L0.Y0
def schedule.L0.out : schedule.L0.X → Out (Exit × AS) := fun x => .ok (schedule.L0.ex0 x)
def schedule.L0.add : schedule.L0.D → schedule.L0.Y → schedule.L0.X := fun (b_2, t8, n2) y => y
abbrev schedule.D := (List Int)
def schedule.st : schedule.D → List AVal × List Ent := fun b => ([.d (.slice (.int .u8)) b], [])
abbrev schedule.Y := (List Int)
abbrev schedule.X := (List Int)
def schedule.out : schedule.X → GRes := fun x => ⟨.d (.arr 64 (.int .u32)) x, [], []⟩
def schedule.add : schedule.D → schedule.Y → schedule.X := fun b y => y


def wl (l : List W) : List Int := l.map vw
def arrOf (l : List W) : List Int := wl l ++ List.replicate (64 - l.length) 0
def wsAt (b : List Int) (k : Nat) : List W := if k ≤ 16 then (words b).take k else wsN (words b) (k - 16)
def schedule.L0.Pre : schedule.L0.D → Prop := fun (b, t8, n2) => 64 ≤ b.length ∧ ∃ k : Nat, k ≤ 64 ∧ t8 = k ∧ n2 = arrOf (wsAt b k)
def schedule.L0.F : schedule.L0.D → schedule.L0.Y := fun (b, t8, n2) => wl (sched b)
def schedule.Pre : schedule.D → Prop := fun b => 64 ≤ b.length
def schedule.F : schedule.D → schedule.Y := fun b => wl (sched b)

noncomputable def schedule.G : Gam := gcons 88 anyArgs binary.E (gcons 71 anyArgs rotl32.E (gnil))
noncomputable def schedule.L0.E : LEntry := LEntry.of schedule.L0.st schedule.L0.Pre (fun d => schedule.L0.add d (schedule.L0.F d)) schedule.L0.out
noncomputable def schedule.L0.call : schedule.L0.D → Option schedule.L0.X := fun d => schedule.L0.E.run (schedule.L0.st d)
noncomputable def schedule.an : Ann := {
  objs := [],
  loops := fun r => bif Nat.beq r 2 then { keep := [0, 2, 8], sites := [2], frz := [], data := [], owns := [] } else { keep := [], sites := [], frz := [], data := [], owns := [] },
  outs := fun r b => bif Nat.beq r 2 then (bif b then { keep := [2], sites := [], frz := [], data := [], owns := [] } else { keep := [2], sites := [2], frz := [], data := [], owns := [] }) else { keep := [], sites := [], frz := [], data := [], owns := [] },
  sums := fun r => bif Nat.beq r 2 then some schedule.L0.E else none,
  owns := [],
  trim := [],
  res := [] }
theorem schedule.L0.inj : ∀ d d', schedule.L0.st d = schedule.L0.st d' → d = d' := fun (b_2, t8, n2) (b_2', t8', n2') hEq => by
  have e0 : b_2 = b_2' := d_inj (t := (.slice (.int .u8))) (congrArg (fun s : AS => (s.slot 0)) hEq)
  have e1 : t8 = t8' := d_inj (t := (.int .i64)) (congrArg (fun s : AS => (s.slot 8)) hEq)
  have e2 : n2 = n2' := d_inj (t := (.arr 64 (.int .u32))) (congrArg (fun s : AS => (entC (s.ent (.new 2 0)))) hEq)
  rw [e0, e1, e2]
theorem schedule.L0.run {d : schedule.L0.D} (h : schedule.L0.Pre d) : schedule.L0.call d = some (schedule.L0.add d (schedule.L0.F d)) := LEntry.of_run schedule.L0.inj h
theorem schedule.L0.byRounds (μ : schedule.L0.D → Nat) (h : ∀ d, schedule.L0.Pre d → (∃ d', schedule.L0.Pre d' ∧ μ d' < μ d ∧ schedule.L0.add d' (schedule.L0.F d') = schedule.L0.add d (schedule.L0.F d) ∧ ∀ {R : Type} (kn : AS → Option R) (kx : Exit → AS → Option R), lround Try.prog schedule.G schedule.an 0 Try.f69 0 (schedule.L0.st d) kn kx = kn (schedule.L0.st d')) ∨ (∀ {R : Type} (kn : AS → Option R) (kx : Exit → AS → Option R), lround Try.prog schedule.G schedule.an 0 Try.f69 0 (schedule.L0.st d) kn kx = kx (schedule.L0.ex0 (schedule.L0.add d (schedule.L0.F d))).1 (schedule.L0.ex0 (schedule.L0.add d (schedule.L0.F d))).2)) : ∀ d, schedule.L0.Pre d → ∃ n, lrun Try.prog schedule.G schedule.an 0 Try.f69 0 n (schedule.L0.st d) (fun e s => some (e, s)) = (schedule.L0.out (schedule.L0.add d (schedule.L0.F d))).eval := lrun_one (F := fun d => schedule.L0.add d (schedule.L0.F d)) μ h
theorem schedule.L0.step {R : Type} (b_2 : (List Int)) (t8 : Int) (n2 : (List Int)) (kn : AS → Option R) (kx : Exit → AS → Option R) : lround Try.prog schedule.G schedule.an 0 Try.f69 0 (schedule.L0.st (b_2, t8, n2)) kn kx =
  sel ((ilt t8 (64 : Int))) (
   sel ((ilt t8 (16 : Int))) (
    sel (inc (imul .i64 (4 : Int) t8) (((List.length b_2) : Nat) : Int)) (
    obind (binary.call (cut b_2 (Int.toNat (imul .i64 (4 : Int) t8)) ((List.length b_2) - (Int.toNat (imul .i64 (4 : Int) t8))))) fun x1 =>
    sel (inb t8 (64 : Int)) (
    sel (decide ((Int.toNat t8) < (List.length n2))) (
    sel (decide ((((Int.toNat t8) * 1) + 0) = (0 + ((Int.toNat t8) * 1)))) (
    sel (decide ((Int.toNat t8) < (List.length n2))) (
    kn (schedule.L0.st (b_2, (iadd .i64 t8 (1 : Int)), (List.set n2 (Int.toNat t8) x1)))) none) none) none) none) none) (
    sel (inb (isub .i64 t8 (15 : Int)) (64 : Int)) (
    sel (decide ((Int.toNat (isub .i64 t8 (15 : Int))) < (List.length n2))) (
    sel (decide ((((Int.toNat (isub .i64 t8 (15 : Int))) * 1) + 0) = (0 + ((Int.toNat (isub .i64 t8 (15 : Int))) * 1)))) (
    sel (inb (isub .i64 t8 (2 : Int)) (64 : Int)) (
    sel (decide ((Int.toNat (isub .i64 t8 (2 : Int))) < (List.length n2))) (
    sel (decide ((((Int.toNat (isub .i64 t8 (2 : Int))) * 1) + 0) = (0 + ((Int.toNat (isub .i64 t8 (2 : Int))) * 1)))) (
    obind (rotl32.call ((nth (.int .u32) n2 (Int.toNat (isub .i64 t8 (15 : Int)))), (-7 : Int))) fun x2 =>
    obind (rotl32.call ((nth (.int .u32) n2 (Int.toNat (isub .i64 t8 (15 : Int)))), (-18 : Int))) fun x3 =>
    obind (rotl32.call ((nth (.int .u32) n2 (Int.toNat (isub .i64 t8 (2 : Int)))), (-17 : Int))) fun x4 =>
    obind (rotl32.call ((nth (.int .u32) n2 (Int.toNat (isub .i64 t8 (2 : Int)))), (-19 : Int))) fun x5 =>
    sel (inb (isub .i64 t8 (16 : Int)) (64 : Int)) (
    sel (decide ((Int.toNat (isub .i64 t8 (16 : Int))) < (List.length n2))) (
    sel (decide ((((Int.toNat (isub .i64 t8 (16 : Int))) * 1) + 0) = (0 + ((Int.toNat (isub .i64 t8 (16 : Int))) * 1)))) (
    sel (inb (isub .i64 t8 (7 : Int)) (64 : Int)) (
    sel (decide ((Int.toNat (isub .i64 t8 (7 : Int))) < (List.length n2))) (
    sel (decide ((((Int.toNat (isub .i64 t8 (7 : Int))) * 1) + 0) = (0 + ((Int.toNat (isub .i64 t8 (7 : Int))) * 1)))) (
    sel (inb t8 (64 : Int)) (
    sel (decide ((Int.toNat t8) < (List.length n2))) (
    sel (decide ((((Int.toNat t8) * 1) + 0) = (0 + ((Int.toNat t8) * 1)))) (
    sel (decide ((Int.toNat t8) < (List.length n2))) (
    kn (schedule.L0.st (b_2, (iadd .i64 t8 (1 : Int)), (List.set n2 (Int.toNat t8) (iadd .u32 (iadd .u32 (iadd .u32 (nth (.int .u32) n2 (Int.toNat (isub .i64 t8 (16 : Int)))) (bitop .xor .u32 (bitop .xor .u32 x2 x3) (ishr .u32 (nth (.int .u32) n2 (Int.toNat (isub .i64 t8 (15 : Int)))) (3 : Int)))) (nth (.int .u32) n2 (Int.toNat (isub .i64 t8 (7 : Int))))) (bitop .xor .u32 (bitop .xor .u32 x4 x5) (ishr .u32 (nth (.int .u32) n2 (Int.toNat (isub .i64 t8 (2 : Int)))) (10 : Int)))))))) none) none) none) none) none) none) none) none) none) none) none) none) none) none) none) none)) (
   kx (schedule.L0.ex0 n2).1 (schedule.L0.ex0 n2).2) := by kernel_rfl
theorem schedule.eq {R : Type} (b : (List Int)) (k : GRes → Option R) : arun Try.prog schedule.G schedule.an 0 Try.f69 (schedule.st b).1 (schedule.st b).2 k =
  obind (schedule.L0.call (b, (0 : Int), (List.replicate 64 (0 : Int)))) fun x6 =>
  k (schedule.out x6) := by kernel_rfl


theorem wsAt_length (b : List Int) (k : Nat) (h : k ≤ 64) : (wsAt b k).length = k := by
  unfold wsAt
  split
  · simp [words_length]; omega
  · rw [wsN_length, words_length]; omega
theorem wsAt_64 (b : List Int) : wsAt b 64 = sched b := rfl
theorem wsAt_succ (b : List Int) (k : Nat) (h : k < 16) : wsAt b (k + 1) = wsAt b k ++ [be b k] := by
  unfold wsAt
  rw [if_pos (by omega), if_pos (by omega), List.take_succ_eq_append_getElem (by rw [words_length]; exact h)]
  simp [words]
theorem wsAt_ext (b : List Int) (k : Nat) (h : 16 ≤ k) : wsAt b (k + 1) = ext (wsAt b k) := by
  unfold wsAt
  rw [if_neg (by omega)]
  by_cases h16 : k = 16
  · subst h16
    rw [if_pos (by omega), List.take_of_length_le (by rw [words_length]; omega)]
    rfl
  · rw [if_neg (by omega), show k + 1 - 16 = (k - 16) + 1 by omega]
    rfl
theorem arrOf_length (l : List W) (h : l.length ≤ 64) : (arrOf l).length = 64 := by simp [arrOf, wl]; omega
theorem arrOf_get (l : List W) (i : Nat) (h : i < l.length) : nth (.int .u32) (arrOf l) i = vw (l.getD i 0) := by
  unfold nth arrOf wl
  rw [List.getD_eq_getElem?_getD, List.getElem?_append_left (by simpa using h)]
  simp [h]
theorem arrOf_set (l : List W) (w : W) (h : l.length < 64) : (arrOf l).set l.length (vw w) = arrOf (l ++ [w]) := by
  unfold arrOf wl
  rw [List.set_append_right _ _ (by simp)]
  simp only [List.length_map, Nat.sub_self, List.map_append, List.length_append, List.length_cons, List.length_nil]
  rw [show 64 - l.length = (64 - (l.length + (0 + 1))) + 1 by omega, List.replicate_succ, List.set_cons_zero]
  simp
theorem arrOf_full (l : List W) (h : l.length = 64) : arrOf l = wl l := by simp [arrOf, h]
theorem be_cut (b : List Int) (k : Nat) (h : 4 * k + 4 ≤ b.length) : be4 ((cut b (4 * k) (b.length - 4 * k)).getD 0 0) ((cut b (4 * k) (b.length - 4 * k)).getD 1 0) ((cut b (4 * k) (b.length - 4 * k)).getD 2 0) ((cut b (4 * k) (b.length - 4 * k)).getD 3 0) = be b k := by
  have e : ∀ j, j < 4 → (cut b (4 * k) (b.length - 4 * k)).getD j 0 = b.getD (4 * k + j) 0 := fun j hj => by
    unfold cut
    rw [List.getD_eq_getElem?_getD, List.getD_eq_getElem?_getD, List.getElem?_take_of_lt (by omega), List.getElem?_drop]
  unfold be
  rw [e 0 (by omega), e 1 (by omega), e 2 (by omega), e 3 (by omega), Nat.add_zero]
theorem rl_rotr (w : W) (k : Int) (n : Nat) (h1 : (k % 32).toNat = 32 - n) (h2 : n ≤ 32) : rl w (k % 32).toNat = rotr w n := by
  unfold rl rotr
  rw [h1, show 32 - (32 - n) = n by omega]
theorem schedule.L0.ok : ∀ d, schedule.L0.Pre d → ∃ n, lrun Try.prog schedule.G schedule.an 0 Try.f69 0 n (schedule.L0.st d) (fun e s => some (e, s)) = (schedule.L0.out (schedule.L0.add d (schedule.L0.F d))).eval := by
  refine schedule.L0.byRounds (fun (b, t8, n2) => 64 - t8.toNat) ?_
  rintro ⟨b, t8, n2⟩ ⟨hb, k, hk, rfl, rfl⟩
  have hwl := wsAt_length b k hk
  have hal := arrOf_length (wsAt b k) (by omega)
  by_cases h : k < 64
  · left
    refine ⟨(b, ((k + 1 : Nat) : Int), arrOf (wsAt b (k + 1))), ⟨hb, k + 1, by omega, rfl, rfl⟩, by simp; omega, rfl, fun kn kx => ?_⟩
    have e1 : iadd .i64 (k : Int) 1 = ((k + 1 : Nat) : Int) := by rw [iadd_i64 (by omega) (by omega)]; omega
    have e2 : Int.toNat (k : Int) = k := by omega
    rw [schedule.L0.step, ilt_true (by omega)]
    simp only [sel_true, e1, e2, hal, Nat.mul_one, Nat.zero_add, Nat.add_zero, decide_true]
    by_cases h16 : k < 16
    · have e3 : imul .i64 4 (k : Int) = ((4 * k : Nat) : Int) := by rw [imul_i64 (by omega) (by omega)]; omega
      have e4 : Int.toNat ((4 * k : Nat) : Int) = 4 * k := by omega
      rw [ilt_true (by omega), e3, inc_true (by omega) (by omega), e4, inb_true (by omega) (by omega), dec_true h]
      have hp : binary.Pre (cut b (4 * k) (b.length - 4 * k)) := by
        show 4 ≤ _
        rw [cut_length (by omega)]; omega
      simp only [sel_true, binary.run hp, obind_some]
      have e5 : binary.add (cut b (4 * k) (b.length - 4 * k)) (binary.F (cut b (4 * k) (b.length - 4 * k))) = vw (be b k) := by
        show vw (be4 _ _ _ _) = _
        rw [be_cut b k (by omega)]
      have e6 := arrOf_set (wsAt b k) (be b k) (by omega)
      rw [hwl] at e6
      rw [e5, e6, wsAt_succ b k h16]
    · have a15 : Int.toNat (isub .i64 (k : Int) 15) = k - 15 := by rw [isub_i64 (by omega) (by omega)]; omega
      have a2 : Int.toNat (isub .i64 (k : Int) 2) = k - 2 := by rw [isub_i64 (by omega) (by omega)]; omega
      have a16 : Int.toNat (isub .i64 (k : Int) 16) = k - 16 := by rw [isub_i64 (by omega) (by omega)]; omega
      have a7 : Int.toNat (isub .i64 (k : Int) 7) = k - 7 := by rw [isub_i64 (by omega) (by omega)]; omega
      have i15 : inb (isub .i64 (k : Int) 15) 64 = true := inb_true (by rw [isub_i64 (by omega) (by omega)]; omega) (by rw [isub_i64 (by omega) (by omega)]; omega)
      have i2 : inb (isub .i64 (k : Int) 2) 64 = true := inb_true (by rw [isub_i64 (by omega) (by omega)]; omega) (by rw [isub_i64 (by omega) (by omega)]; omega)
      have i16 : inb (isub .i64 (k : Int) 16) 64 = true := inb_true (by rw [isub_i64 (by omega) (by omega)]; omega) (by rw [isub_i64 (by omega) (by omega)]; omega)
      have i7 : inb (isub .i64 (k : Int) 7) 64 = true := inb_true (by rw [isub_i64 (by omega) (by omega)]; omega) (by rw [isub_i64 (by omega) (by omega)]; omega)
      have i0 : inb (k : Int) 64 = true := inb_true (by omega) (by omega)
      have d15 : decide (k - 15 < 64) = true := dec_true (by omega)
      have d2 : decide (k - 2 < 64) = true := dec_true (by omega)
      have d16 : decide (k - 16 < 64) = true := dec_true (by omega)
      have d7 : decide (k - 7 < 64) = true := dec_true (by omega)
      have d0 : decide (k < 64) = true := dec_true h
      rw [ilt_false (by omega)]
      simp only [sel_true, sel_false, a15, a2, a16, a7, i15, i2, i16, i7, i0, d15, d2, d16, d7, d0, arrOf_get (wsAt b k) (k - 15) (by omega), arrOf_get (wsAt b k) (k - 2) (by omega), arrOf_get (wsAt b k) (k - 16) (by omega), arrOf_get (wsAt b k) (k - 7) (by omega), rotl32.at, obind_some, bitop_u32, ishr_u32, iadd_u32]
      have e6 := arrOf_set (wsAt b k) (nextw (wsAt b k) k) (by omega)
      rw [hwl] at e6
      rw [wsAt_ext b k (by omega), ext, hwl, ← e6]
      rfl
  · right
    obtain rfl : k = 64 := by omega
    intro R kn kx
    rw [schedule.L0.step, ilt_false (by omega), arrOf_full _ hwl, wsAt_64]
    simp only [sel_false, schedule.L0.add, schedule.L0.F]
theorem schedule.ok : ∀ d, schedule.Pre d → arun Try.prog schedule.G schedule.an 0 Try.f69 (schedule.st d).1 (schedule.st d).2 some = some (schedule.out (schedule.add d (schedule.F d))) := by
  intro b hb
  have hp : schedule.L0.Pre (b, 0, List.replicate 64 0) := ⟨hb, 0, by omega, rfl, rfl⟩
  rw [schedule.eq, schedule.L0.run hp]
  simp only [obind_some, schedule.L0.add, schedule.L0.F, schedule.add, schedule.F]

theorem schedule.inj : ∀ d d', schedule.st d = schedule.st d' → d = d' := fun b b' hEq => by
  have e0 : b = b' := d_inj (t := (.slice (.int .u8))) (congrArg (fun s : List AVal × List Ent => (s.1.getD 0 .undef)) hEq)
  rw [e0]
noncomputable def schedule.E : Entry := Entry.of [some (.slice (.int .u8))] schedule.st schedule.Pre (fun d => schedule.add d (schedule.F d)) schedule.out
noncomputable def schedule.call : schedule.D → Option schedule.X := fun d => schedule.E.run (schedule.st d).1 (schedule.st d).2
theorem schedule.run {d : schedule.D} (h : schedule.Pre d) : schedule.call d = some (schedule.add d (schedule.F d)) := Entry.of_run schedule.inj h
theorem schedule.does : Does Try.prog 69 schedule.E := Does.of (by kernel_rfl) (show Sound _ schedule.G from Sound.cons binary.does (Sound.cons rotl32.does (Sound.nil _))) (by kernel_rfl) (by kernel_rfl) (by kernel_rfl) (LOk.fn 1 (by kernel_rfl) (And.intro (LDo.of (by kernel_rfl) schedule.L0.ok) trivial)) schedule.ok

end Go.Ab
