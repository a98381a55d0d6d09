/-
  Made by a program of mine (wip/gen), and by hand.
-/
import Derived.Test.YtglpcfdjdabdnaaCo1
namespace Go.Ab
open Go.Proofs
set_option maxRecDepth 100000
set_option linter.unusedVariables false
set_option linter.unusedSimpArgs false


/-- A number in digits of 128, all but the last one marked. -/
def rowI : Nat → Int → List Int × Int
  | 0, n => ([], n)
  | f + 1, n => if 128 ≤ n then ((n % 128 + 128) :: (rowI f (n / 128)).1, (rowI f (n / 128)).2) else ([], n)
def rowN (n : Int) : List Int := (rowI 10 n).1 ++ [(rowI 10 n).2]
theorem rowI_more : ∀ (f g : Nat) (n : Int), n < 128 ^ (f + 1) → n < 128 ^ (g + 1) → rowI f n = rowI g n
  | 0, 0, n, _, _ => rfl
  | 0, g + 1, n, h, _ => by
    have h : n < 128 := h
    rw [rowI, rowI, if_neg (by omega)]
  | f + 1, 0, n, _, h => by
    have h : n < 128 := h
    rw [rowI, rowI, if_neg (by omega)]
  | f + 1, g + 1, n, h, h' => by
    rw [rowI, rowI]
    split
    · have e : (128 : Int) ^ (f + 1 + 1) = 128 ^ (f + 1) * 128 := Int.pow_succ 128 (f + 1)
      have e' : (128 : Int) ^ (g + 1 + 1) = 128 ^ (g + 1) * 128 := Int.pow_succ 128 (g + 1)
      rw [rowI_more f g (n / 128) (by omega) (by omega)]
    · rfl
theorem rowI_len : ∀ (f : Nat) (n : Int), (rowI f n).1.length ≤ f
  | 0, _ => Nat.le_refl _
  | f + 1, n => by
    rw [rowI]
    split
    · have := rowI_len f (n / 128)
      simp only [List.length_cons]; omega
    · exact Nat.zero_le _
theorem rowI_last : ∀ (f : Nat) (n : Int), 0 ≤ n → n < 128 ^ (f + 1) → 0 ≤ (rowI f n).2 ∧ (rowI f n).2 < 128
  | 0, n, h, h' => by have h' : n < 128 := h'; exact ⟨h, h'⟩
  | f + 1, n, h, h' => by
    rw [rowI]
    have e : (128 : Int) ^ (f + 1 + 1) = 128 ^ (f + 1) * 128 := Int.pow_succ 128 (f + 1)
    split
    · exact rowI_last f (n / 128) (by omega) (by omega)
    · exact ⟨h, by omega⟩
theorem rowI_step {n : Int} (h : 128 ≤ n) (h2 : n ≤ 9223372036854775807) : rowI 10 n = ((n % 128 + 128) :: (rowI 10 (n / 128)).1, (rowI 10 (n / 128)).2) := by
  have e : (128 : Int) ^ (9 + 1) = 1180591620717411303424 := rfl
  have e2 : (128 : Int) ^ (10 + 1) = 151115727451828646838272 := rfl
  rw [rowI, if_pos h, rowI_more 9 10 (n / 128) (by rw [e]; omega) (by rw [e2]; omega)]
theorem rowN_len (n : Int) : (rowN n).length ≤ 11 := by
  have := rowI_len 10 n
  unfold rowN
  simp only [List.length_append, List.length_cons, List.length_nil]; omega
def NatI (n : Int) : Prop := 0 ≤ n ∧ n ≤ 9223372036854775807

/-! ### corsned/code.row -/
abbrev crow.L0.D := Int × Nat × (List Int)
def crow.L0.st : crow.L0.D → AS := fun (n_2, outL, n14) => ⟨([.d (.int .i64) n_2, .undef, .undef, .sref (.new 14 0) 0 [] 0 0 outL] ++ undN 16 []), [], (nilN 14 ([[.obj 0 false (.vec 5 (.int .u8) n14)]] ++ nilN 5 []))⟩
abbrev crow.L0.Y0 := Int × Nat × (List Int)  -- n, outL, n14
abbrev crow.L0.X0 := Int × Nat × (List Int)
def crow.L0.ex0 : crow.L0.X0 → Exit × AS := fun x => (.exit 0, ⟨([.d (.int .i64) x.1, .undef, .undef, .sref (.new 14 0) 0 [] 0 0 x.2.1] ++ undN 16 []), [], (nilN 14 ([[.obj 0 false (.vec 5 (.int .u8) x.2.2)]] ++ nilN 5 []))⟩)
abbrev crow.L0.X := crow.L0.X0
abbrev crow.L0.Y := crow.L0.Y0
def crow.L0.out : crow.L0.X → Out (Exit × AS) := fun x => .ok (crow.L0.ex0 x)
def crow.L0.add : crow.L0.D → crow.L0.Y → crow.L0.X := fun (n_2, outL, n14) y => y
abbrev crow.D := Int
def crow.st : crow.D → List AVal × List Ent := fun n => ([.d (.int .i64) n], [])
abbrev crow.Y := (List Int)
abbrev crow.X := (List Int)
def crow.out : crow.X → GRes := fun x => ⟨.d (.slice (.int .u8)) x, [], []⟩
def crow.add : crow.D → crow.Y → crow.X := fun n y => y


def crow.L0.Pre : crow.L0.D → Prop := fun (n, m, l) => NatI n ∧ m = l.length ∧ l.length ≤ 1000 + 0 * n.toNat ∧ l.length + (rowI 10 n).1.length ≤ 100
def crow.L0.F : crow.L0.D → crow.L0.Y := fun (n, m, l) => ((rowI 10 n).2, (l ++ (rowI 10 n).1).length, l ++ (rowI 10 n).1)
def crow.Pre : crow.D → Prop := fun n => NatI n
def crow.F : crow.D → crow.Y := fun n => rowN n

noncomputable def crow.G : Gam := gnil
noncomputable def crow.L0.E : LEntry := LEntry.of crow.L0.st crow.L0.Pre (fun d => crow.L0.add d (crow.L0.F d)) crow.L0.out
noncomputable def crow.L0.call : crow.L0.D → Option crow.L0.X := fun d => crow.L0.E.run (crow.L0.st d)
noncomputable def crow.an : Ann := {
  objs := [],
  loops := fun r => bif Nat.beq r 2 then { keep := [0, 3], sites := [14], frz := [], data := [], owns := [⟨3, [], 14, 52⟩] } else { keep := [], sites := [], frz := [], data := [], owns := [] },
  outs := fun r b => bif Nat.beq r 2 then (bif b then { keep := [2], sites := [], frz := [], data := [], owns := [] } else { keep := [0, 3], sites := [14], frz := [], data := [], owns := [] }) else { keep := [], sites := [], frz := [], data := [], owns := [] },
  sums := fun r => bif Nat.beq r 2 then some crow.L0.E else none,
  owns := [],
  trim := [],
  res := [some (.slice (.int .u8))] }
theorem crow.L0.inj : ∀ d d', crow.L0.st d = crow.L0.st d' → d = d' := fun (n_2, outL, n14) (n_2', outL', n14') hEq => by
  have e0 : n_2 = n_2' := d_inj (t := (.int .i64)) (congrArg (fun s : AS => (s.slot 0)) hEq)
  have e1 : outL = outL' := congrArg (fun s : AS => srefLen (s.slot 3)) hEq
  have e2 : n14 = n14' := vec_inj (e := 5) (t := (.int .u8)) (congrArg (fun s : AS => (entC (s.ent (.new 14 0)))) hEq)
  rw [e0, e1, e2]
theorem crow.L0.run {d : crow.L0.D} (h : crow.L0.Pre d) : crow.L0.call d = some (crow.L0.add d (crow.L0.F d)) := LEntry.of_run crow.L0.inj h
theorem crow.L0.byRounds (μ : crow.L0.D → Nat) (h : ∀ d, crow.L0.Pre d → (∃ d', crow.L0.Pre d' ∧ μ d' < μ d ∧ crow.L0.add d' (crow.L0.F d') = crow.L0.add d (crow.L0.F d) ∧ ∀ {R : Type} (kn : AS → Option R) (kx : Exit → AS → Option R), lround Try.prog crow.G crow.an 0 Try.f68 0 (crow.L0.st d) kn kx = kn (crow.L0.st d')) ∨ (∀ {R : Type} (kn : AS → Option R) (kx : Exit → AS → Option R), lround Try.prog crow.G crow.an 0 Try.f68 0 (crow.L0.st d) kn kx = kx (crow.L0.ex0 (crow.L0.add d (crow.L0.F d))).1 (crow.L0.ex0 (crow.L0.add d (crow.L0.F d))).2)) : ∀ d, crow.L0.Pre d → ∃ n, lrun Try.prog crow.G crow.an 0 Try.f68 0 n (crow.L0.st d) (fun e s => some (e, s)) = (crow.L0.out (crow.L0.add d (crow.L0.F d))).eval := lrun_one (F := fun d => crow.L0.add d (crow.L0.F d)) μ h
theorem crow.L0.step {R : Type} (n_2 : Int) (outL : Nat) (n14 : (List Int)) (kn : AS → Option R) (kx : Exit → AS → Option R) : lround Try.prog crow.G crow.an 0 Try.f68 0 (crow.L0.st (n_2, outL, n14)) kn kx =
  sel ((ige n_2 (128 : Int))) (
   sel (decide (outL ≤ (List.length n14))) (
   sel (roomA (outL + 1) 1) (
   kn (crow.L0.st ((iquo .i64 n_2 (128 : Int)), (outL + 1), ((List.take outL n14) ++ [(icv .u8 (iadd .i64 (irem n_2 (128 : Int)) (128 : Int)))])))) none) none) (
   kx (crow.L0.ex0 (n_2, outL, n14)).1 (crow.L0.ex0 (n_2, outL, n14)).2) := by kernel_rfl
theorem crow.eq {R : Type} (n : Int) (k : GRes → Option R) : arun Try.prog crow.G crow.an 0 Try.f68 (crow.st n).1 (crow.st n).2 k =
  obind (crow.L0.call (n, 0, ([] : List Int))) fun x1 =>
  sel (decide (x1.2.1 ≤ (List.length x1.2.2))) (
  sel (roomA (x1.2.1 + 1) 1) (
  sel (decide (0 = 0 ∧ (0 + (x1.2.1 + 1)) ≤ (List.length ((List.take x1.2.1 x1.2.2) ++ [(icv .u8 x1.1)])))) (
  k (crow.out (cut ((List.take x1.2.1 x1.2.2) ++ [(icv .u8 x1.1)]) 0 (x1.2.1 + 1)))) none) none) none := by kernel_rfl


theorem digit_eq {n : Int} (h : NatI n) : icv .u8 (iadd .i64 (irem n 128) 128) = n % 128 + 128 := by
  have h1 := h.1
  rw [irem_nn h.1, iadd_i64 (by omega) (by omega), icv_u8, vw_ofInt]
  omega
theorem crow.L0.ok : ∀ d, crow.L0.Pre d → ∃ n, lrun Try.prog crow.G crow.an 0 Try.f68 0 n (crow.L0.st d) (fun e s => some (e, s)) = (crow.L0.out (crow.L0.add d (crow.L0.F d))).eval := by
  refine crow.L0.byRounds (fun (n, m, l) => n.toNat) ?_
  rintro ⟨n, m, l⟩ ⟨hn, rfl, hl, hz⟩
  have hn : NatI n := hn
  have hz : l.length + (rowI 10 n).1.length ≤ 100 := hz
  have h1 := hn.1
  have h2 := hn.2
  by_cases h : 128 ≤ n
  · left
    have e := rowI_step h h2
    have hq : iquo .i64 n 128 = n / 128 := by
      rw [iquo, Int.tdiv_eq_ediv_of_nonneg h1]
      exact i64_wrap (by omega) (by omega)
    have el : ((n % 128 + 128) :: (rowI 10 (n / 128)).1).length = (rowI 10 (n / 128)).1.length + 1 := List.length_cons
    rw [e] at hz
    have hz : l.length + ((n % 128 + 128) :: (rowI 10 (n / 128)).1).length ≤ 100 := hz
    rw [el] at hz
    refine ⟨(n / 128, l.length + 1, l ++ [n % 128 + 128]), ⟨⟨by omega, by omega⟩, by rw [List.length_append]; rfl, by rw [List.length_append]; simp only [List.length_cons, List.length_nil]; omega, by rw [List.length_append]; simp only [List.length_cons, List.length_nil]; omega⟩, by simp only []; omega, ?_, fun kn kx => ?_⟩
    · simp only [crow.L0.add, crow.L0.F, e, List.append_assoc, List.cons_append, List.nil_append]
    · rw [crow.L0.step, ige_true h, digit_eq hn, hq]
      simp (disch := omega) only [↓N.lt, ↓N.le, ↓N.gt, ↓N.ge, ↓N.eq, ↓N.ne, ↓N.ib, ↓N.ic, ↓N.nn, ↓N.nz, ↓N.dc, ↓N.rm, ↓N.an, ↓N.or, ↓N.no, ↓if_pos, ↓if_neg, ↓sel_true, ↓sel_false, ↓obind_some, if_pos, if_neg, obind_some, N.aNN, N.aNL, N.aLN, N.sNN, N.sNL, N.sLN, N.mNN, N.mNL, N.mLN, N.qNN, N.qNL, N.rNN, N.rNL, N.cN, N.cL, N.tL, Int.toNat_natCast, if_true, if_false, and_self, true_and, and_true, Nat.le_refl, List.take_length]
  · right
    have e : rowI 10 n = ([], n) := by rw [rowI, if_neg h]
    intro R kn kx
    rw [crow.L0.step, ige_false h]
    simp only [sel_false, crow.L0.add, crow.L0.F, e, List.append_nil]
theorem crow.ok : ∀ d, crow.Pre d → arun Try.prog crow.G crow.an 0 Try.f68 (crow.st d).1 (crow.st d).2 some = some (crow.out (crow.add d (crow.F d))) := by
  intro n hn
  have hn : NatI n := hn
  have hl := rowI_len 10 n
  have e2 : (128 : Int) ^ (10 + 1) = 151115727451828646838272 := rfl
  have hd := rowI_last 10 n hn.1 (by have := hn.2; rw [e2]; omega)
  have p : crow.L0.Pre (n, 0, []) := ⟨hn, rfl, by simp, by simp only [List.length_nil]; omega⟩
  have hi : icv .u8 (rowI 10 n).2 = (rowI 10 n).2 := by rw [icv_u8, vw_ofInt]; omega
  rw [crow.eq, crow.L0.run p]
  simp only [obind_some, crow.L0.add, crow.L0.F, List.nil_append, hi, List.take_length, Nat.le_refl, decide_true, sel_true]
  rw [room_true (by omega) (by omega)]
  simp only [sel_true, Nat.zero_add, List.length_append, List.length_cons, List.length_nil, Nat.le_refl, and_self, decide_true]
  rw [cut_len (by rw [List.length_append]; rfl)]
  rfl

theorem crow.inj : ∀ d d', crow.st d = crow.st d' → d = d' := fun n n' hEq => by
  have e0 : n = n' := d_inj (t := (.int .i64)) (congrArg (fun s : List AVal × List Ent => (s.1.getD 0 .undef)) hEq)
  rw [e0]
noncomputable def crow.E : Entry := Entry.of [some (.int .i64)] crow.st crow.Pre (fun d => crow.add d (crow.F d)) crow.out
noncomputable def crow.call : crow.D → Option crow.X := fun d => crow.E.run (crow.st d).1 (crow.st d).2
theorem crow.run {d : crow.D} (h : crow.Pre d) : crow.call d = some (crow.add d (crow.F d)) := Entry.of_run crow.inj h
theorem crow.does : Does Try.prog 68 crow.E := Does.of (by kernel_rfl) (show Sound _ crow.G from Sound.nil _) (by kernel_rfl) (by kernel_rfl) (by kernel_rfl) (LOk.fn 1 (by kernel_rfl) (And.intro (LDo.of (by kernel_rfl) crow.L0.ok) trivial)) crow.ok


def putN (b : List Int) (n : Int) : List Int := if n < 0 then b else b ++ rowN n
theorem putN_len (b : List Int) (n : Int) : (putN b n).length ≤ b.length + 11 := by
  unfold putN
  have := rowN_len n
  split
  · omega
  · rw [List.length_append]; omega

/-! ### corsned/code.Put -/
abbrev cput.D := (List Int) × Int
def cput.st : cput.D → List AVal × List Ent := fun (b, n) => ([.d (.slice (.int .u8)) b, .d (.int .i64) n], [])
abbrev cput.Y := (List Int)
abbrev cput.X := (List Int)
def cput.out : cput.X → GRes := fun x => ⟨.d (.slice (.int .u8)) x, [], []⟩
def cput.add : cput.D → cput.Y → cput.X := fun (b, n) y => y


def cput.Pre : cput.D → Prop := fun (b, n) => b.length ≤ 90000000 ∧ n ≤ 9223372036854775807
def cput.F : cput.D → cput.Y := fun (b, n) => putN b n

noncomputable def cput.G : Gam := gcons 67 anyArgs claid.E (gcons 68 anyArgs crow.E (gnil))
noncomputable def cput.an : Ann := {
  objs := [],
  loops := fun r => { keep := [], sites := [], frz := [], data := [], owns := [] },
  outs := fun r b => { keep := [], sites := [], frz := [], data := [], owns := [] },
  sums := fun r => none,
  owns := [],
  trim := [],
  res := [] }
theorem cput.eq {R : Type} (b : (List Int)) (n : Int) (k : GRes → Option R) : arun Try.prog cput.G cput.an 0 Try.f43 (cput.st (b, n)).1 (cput.st (b, n)).2 k =
  sel ((ilt n (0 : Int))) (
   obind (claid.call (b, ([] : List Int))) fun x1 =>
   k (cput.out x1)) (
   obind (crow.call n) fun x2 =>
   obind (claid.call (b, x2)) fun x3 =>
   k (cput.out x3)) := by kernel_rfl


theorem cput.ok : ∀ d, cput.Pre d → arun Try.prog cput.G cput.an 0 Try.f43 (cput.st d).1 (cput.st d).2 some = some (cput.out (cput.add d (cput.F d))) := by
  rintro ⟨b, n⟩ ⟨hb, hn⟩
  have hb : b.length ≤ 90000000 := hb
  have hn : n ≤ 9223372036854775807 := hn
  rw [cput.eq]
  simp only [cput.add, cput.F, putN]
  by_cases h : n < 0
  · rw [ilt_true h, if_pos h, sel_true, claid.run (d := (b, [])) (by show b.length + ([] : List Int).length ≤ _; simp only [List.length_nil]; omega)]
    simp only [obind_some, claid.add, claid.F, List.append_nil]
  · have hl := rowN_len n
    rw [ilt_false h, if_neg h, sel_false, crow.run (d := n) ⟨by omega, hn⟩]
    simp only [obind_some, crow.add, crow.F]
    rw [claid.run (d := (b, rowN n)) (by show b.length + (rowN n).length ≤ _; omega)]
    rfl

theorem cput.inj : ∀ d d', cput.st d = cput.st d' → d = d' := fun (b, n) (b', n') hEq => by
  have e0 : b = b' := d_inj (t := (.slice (.int .u8))) (congrArg (fun s : List AVal × List Ent => (s.1.getD 0 .undef)) hEq)
  have e1 : n = n' := d_inj (t := (.int .i64)) (congrArg (fun s : List AVal × List Ent => (s.1.getD 1 .undef)) hEq)
  rw [e0, e1]
noncomputable def cput.E : Entry := Entry.of [some (.slice (.int .u8)), some (.int .i64)] cput.st cput.Pre (fun d => cput.add d (cput.F d)) cput.out
noncomputable def cput.call : cput.D → Option cput.X := fun d => cput.E.run (cput.st d).1 (cput.st d).2
theorem cput.run {d : cput.D} (h : cput.Pre d) : cput.call d = some (cput.add d (cput.F d)) := Entry.of_run cput.inj h
theorem cput.does : Does Try.prog 43 cput.E := Does.of (by kernel_rfl) (show Sound _ cput.G from Sound.cons claid.does (Sound.cons crow.does (Sound.nil _))) (by kernel_rfl) (by kernel_rfl) (by kernel_rfl) (LOk.fn 0 (by kernel_rfl) trivial) cput.ok

/-! ### corsned/code.PutU64 -/
abbrev cputu.D := (List Int) × Int
def cputu.st : cputu.D → List AVal × List Ent := fun (b, n) => ([.d (.slice (.int .u8)) b, .d (.int .u64) n], [])
abbrev cputu.Y := (List Int)
abbrev cputu.X := (List Int)
def cputu.out : cputu.X → GRes := fun x => ⟨.d (.slice (.int .u8)) x, [], []⟩
def cputu.add : cputu.D → cputu.Y → cputu.X := fun (b, n) y => y


def cputu.Pre : cputu.D → Prop := fun (b, n) => b.length ≤ 90000000
def cputu.F : cputu.D → cputu.Y := fun (b, n) => b ++ be8 n

noncomputable def cputu.G : Gam := gcons 67 anyArgs claid.E (gnil)
noncomputable def cputu.an : Ann := {
  objs := [],
  loops := fun r => bif Nat.beq r 3 then { keep := [0, 1, 5, 7], sites := [5, 21], frz := [], data := [], owns := [] } else { keep := [], sites := [], frz := [], data := [], owns := [] },
  outs := fun r b => bif Nat.beq r 3 then (bif b then { keep := [4], sites := [5, 21], frz := [], data := [], owns := [] } else { keep := [0, 5], sites := [5, 21], frz := [], data := [], owns := [] }) else { keep := [], sites := [], frz := [], data := [], owns := [] },
  sums := fun r => none,
  owns := [],
  trim := [],
  res := [] }
theorem cputu.eq {R : Type} (b : (List Int)) (n : Int) (k : GRes → Option R) : arun Try.prog cputu.G cputu.an 12 Try.f44 (cputu.st (b, n)).1 (cputu.st (b, n)).2 k =
  obind (claid.call (b, [(icv .u8 (ishr .u64 n (56 : Int))), (icv .u8 (ishr .u64 n (48 : Int))), (icv .u8 (ishr .u64 n (40 : Int))), (icv .u8 (ishr .u64 n (32 : Int))), (icv .u8 (ishr .u64 n (24 : Int))), (icv .u8 (ishr .u64 n (16 : Int))), (icv .u8 (ishr .u64 n (8 : Int))), (icv .u8 (ishr .u64 n (0 : Int)))])) fun x1 =>
  k (cputu.out x1) := by kernel_rfl


theorem cputu.ok : ∀ d, cputu.Pre d → arun Try.prog cputu.G cputu.an 12 Try.f44 (cputu.st d).1 (cputu.st d).2 some = some (cputu.out (cputu.add d (cputu.F d))) := by
  rintro ⟨b, n⟩ hb
  have hb : b.length ≤ 90000000 := hb
  have p : claid.Pre (b, be8 n) := by show b.length + (be8 n).length ≤ _; rw [be8_length]; omega
  have e : claid.call (b, [icv .u8 (ishr .u64 n 56), icv .u8 (ishr .u64 n 48), icv .u8 (ishr .u64 n 40), icv .u8 (ishr .u64 n 32), icv .u8 (ishr .u64 n 24), icv .u8 (ishr .u64 n 16), icv .u8 (ishr .u64 n 8), icv .u8 (ishr .u64 n 0)]) = some (b ++ be8 n) := by
    rw [be8_eq64]; exact claid.run p
  rw [cputu.eq]
  refine Eq.trans (congrArg (fun x => obind x _) e) ?_
  rfl

theorem cputu.inj : ∀ d d', cputu.st d = cputu.st d' → d = d' := fun (b, n) (b', n') hEq => by
  have e0 : b = b' := d_inj (t := (.slice (.int .u8))) (congrArg (fun s : List AVal × List Ent => (s.1.getD 0 .undef)) hEq)
  have e1 : n = n' := d_inj (t := (.int .u64)) (congrArg (fun s : List AVal × List Ent => (s.1.getD 1 .undef)) hEq)
  rw [e0, e1]
noncomputable def cputu.E : Entry := Entry.of [some (.slice (.int .u8)), some (.int .u64)] cputu.st cputu.Pre (fun d => cputu.add d (cputu.F d)) cputu.out
noncomputable def cputu.call : cputu.D → Option cputu.X := fun d => cputu.E.run (cputu.st d).1 (cputu.st d).2
theorem cputu.run {d : cputu.D} (h : cputu.Pre d) : cputu.call d = some (cputu.add d (cputu.F d)) := Entry.of_run cputu.inj h
theorem cputu.does : Does Try.prog 44 cputu.E := Does.of (by kernel_rfl) (show Sound _ cputu.G from Sound.cons claid.does (Sound.nil _)) (by kernel_rfl) (by kernel_rfl) (by kernel_rfl) (LOk.fn 1 (by kernel_rfl) (And.intro (LDo.none (by kernel_rfl)) trivial)) cputu.ok

end Go.Ab
