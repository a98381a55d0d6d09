/-
  Made by a program of mine (wip/gen), and by hand.
-/
import Derived.Test.YtglpcfdjdabdnaaCo2
namespace Go.Ab
open Go.Proofs
set_option maxRecDepth 100000
set_option linter.unusedVariables false
set_option linter.unusedSimpArgs false


/-- A reader: what is left, and whether it has failed. -/
abbrev Rdr := List Int × (Bool × Unit)
def failR : Rdr := ([], true, ())
def RdrB (r : Rdr) : Prop := r.1.length ≤ 1000000000 ∧ Bytes r.1
def takeR (n : Nat) (r : Rdr) : List Int × Rdr := if r.2.1 = true ∨ r.1.length < n then ([], failR) else (r.1.take n, (r.1.drop n, r.2))
def num8 (l : List Int) : Int := l.foldl (fun n b => n * 256 + b) 0
def u64R (r : Rdr) : Int × Rdr := (num8 (takeR 8 r).1, (takeR 8 r).2)
theorem failR_b : RdrB failR := ⟨Nat.zero_le _, fun x hx => by cases hx⟩
theorem takeR_b {n : Nat} {r : Rdr} (h : RdrB r) : (takeR n r).1.length ≤ n ∧ Bytes (takeR n r).1 ∧ RdrB (takeR n r).2 := by
  unfold takeR
  split
  · exact ⟨Nat.zero_le _, fun x hx => (by cases hx), failR_b⟩
  · refine ⟨by rw [List.length_take]; omega, fun x hx => h.2 x (List.mem_of_mem_take hx), ?_, fun x hx => h.2 x (List.mem_of_mem_drop hx)⟩
    show (r.1.drop n).length ≤ _
    rw [List.length_drop]
    have := h.1
    omega
theorem takeR_len (n : Nat) (r : Rdr) : (takeR n r).2.1.length ≤ r.1.length := by
  unfold takeR
  split
  · exact Nat.zero_le _
  · show (r.1.drop n).length ≤ _
    rw [List.length_drop]; omega
theorem num8_snoc (l : List Int) (b : Int) : num8 (l ++ [b]) = num8 l * 256 + b := by unfold num8; rw [List.foldl_append]; rfl
theorem num8F_ok : ∀ (l : List Int) (n : Int) (k : Nat), Bytes l → 0 ≤ n → n < 256 ^ k → 0 ≤ l.foldl (fun n b => n * 256 + b) n ∧ l.foldl (fun n b => n * 256 + b) n < 256 ^ (k + l.length)
  | [], n, k, _, h0, h1 => ⟨h0, h1⟩
  | b :: l, n, k, hb, h0, h1 => by
    obtain ⟨hx1, hx2⟩ := hb b List.mem_cons_self
    have e : (256 : Int) ^ (k + 1) = 256 ^ k * 256 := Int.pow_succ 256 k
    have := num8F_ok l (n * 256 + b) (k + 1) (fun x hx => hb x (List.mem_cons_of_mem _ hx)) (by omega) (by rw [e]; omega)
    rw [show k + (b :: l).length = k + 1 + l.length by rw [List.length_cons]; omega]
    exact this
theorem num8_ok {l : List Int} (h : Bytes l) : 0 ≤ num8 l ∧ num8 l < 256 ^ l.length := by
  have := num8F_ok l 0 0 h (Int.le_refl 0) (by decide)
  rw [Nat.zero_add] at this
  exact this
theorem pow256_le {a b : Nat} (h : a ≤ b) : (256 : Int) ^ a ≤ 256 ^ b := by
  have : ((256 ^ a : Nat) : Int) ≤ ((256 ^ b : Nat) : Int) := Int.ofNat_le.2 (Nat.pow_le_pow_right (by decide) h)
  rw [Int.natCast_pow, Int.natCast_pow] at this
  exact this
theorem num8_u {l : List Int} (h : Bytes l) (h8 : l.length ≤ 8) : U64 (num8 l) := by
  have e := num8_ok h
  have e2 := pow256_le h8
  have e3 : (256 : Int) ^ 8 = 18446744073709551616 := rfl
  exact ⟨e.1, by omega⟩
theorem u64R_u {r : Rdr} (h : RdrB r) : U64 (u64R r).1 ∧ RdrB (u64R r).2 := ⟨num8_u (takeR_b h).2.1 (takeR_b h).1, (takeR_b h).2.2⟩
theorem step8 {n b : Int} (h0 : 0 ≤ n) (h1 : n < 72057594037927936) (hb : Byte b) : bitop .or .u64 (ishl .u64 n 8) (icv .u64 b) = n * 256 + b := by
  have e := (from_digits (n := n) (b := b) ⟨h0, by omega⟩ hb).1
  rw [shr_u64 56 (by rfl) (by omega)] at e
  have p : (2 : Int) ^ 56 = 72057594037927936 := rfl
  rw [p] at e
  omega

/-! ### (*corsned/code.Reader).fail -/
abbrev rfail.D := ((List Int) × (Bool × Unit))
def rfail.st : rfail.D → List AVal × List Ent := fun o0 => ([.ptr (.old 0) 0 [] 0], [.obj 0 false (.d (.pair (.slice (.int .u8)) (.pair .bool .unit)) o0)])
abbrev rfail.Y := ((List Int) × (Bool × Unit))
abbrev rfail.X := ((List Int) × (Bool × Unit))
def rfail.out : rfail.X → GRes := fun x => ⟨.nil, [.obj 0 false (.d (.pair (.slice (.int .u8)) (.pair .bool .unit)) x)], []⟩
def rfail.add : rfail.D → rfail.Y → rfail.X := fun o0 y => y


def rfail.Pre : rfail.D → Prop := fun _ => True
def rfail.F : rfail.D → rfail.Y := fun _ => failR

noncomputable def rfail.G : Gam := gnil
noncomputable def rfail.an : Ann := {
  objs := [],
  loops := fun r => { keep := [], sites := [], frz := [], data := [], owns := [] },
  outs := fun r b => { keep := [], sites := [], frz := [], data := [], owns := [] },
  sums := fun r => none,
  owns := [],
  trim := [],
  res := [],
  dats := [⟨0, [.arr], (.pair (.slice (.int .u8)) (.pair .bool .unit))⟩] }
theorem rfail.eq {R : Type} (o0 : ((List Int) × (Bool × Unit))) (k : GRes → Option R) : arun Try.prog rfail.G rfail.an 0 Try.f47 (rfail.st o0).1 (rfail.st o0).2 k =
  k (rfail.out (([] : List Int), (true, o0.2.2))) := by kernel_rfl


theorem rfail.ok : ∀ d, rfail.Pre d → arun Try.prog rfail.G rfail.an 0 Try.f47 (rfail.st d).1 (rfail.st d).2 some = some (rfail.out (rfail.add d (rfail.F d))) := by
  intro o _
  rw [rfail.eq]
  rfl

theorem rfail.inj : ∀ d d', rfail.st d = rfail.st d' → d = d' := fun o0 o0' hEq => by
  have e0 : o0 = o0' := d_inj (t := (.pair (.slice (.int .u8)) (.pair .bool .unit))) (congrArg (fun s : List AVal × List Ent => (entD (s.2.getD 0 .dead))) hEq)
  rw [e0]
noncomputable def rfail.E : Entry := Entry.of [none] rfail.st rfail.Pre (fun d => rfail.add d (rfail.F d)) rfail.out
noncomputable def rfail.call : rfail.D → Option rfail.X := fun d => rfail.E.run (rfail.st d).1 (rfail.st d).2
theorem rfail.run {d : rfail.D} (h : rfail.Pre d) : rfail.call d = some (rfail.add d (rfail.F d)) := Entry.of_run rfail.inj h
theorem rfail.does : Does Try.prog 47 rfail.E := Does.of (by kernel_rfl) (show Sound _ rfail.G from Sound.nil _) (by kernel_rfl) (by kernel_rfl) (by kernel_rfl) (LOk.fn 0 (by kernel_rfl) trivial) rfail.ok

/-! ### (*corsned/code.Reader).Left -/
abbrev rleft.D := ((List Int) × (Bool × Unit))
def rleft.st : rleft.D → List AVal × List Ent := fun o0 => ([.ptr (.old 0) 0 [] 0], [.obj 0 false (.d (.pair (.slice (.int .u8)) (.pair .bool .unit)) o0)])
abbrev rleft.Y := Int
abbrev rleft.X := (((List Int) × (Bool × Unit))) × (Int)
def rleft.out : rleft.X → GRes := fun x => ⟨.d (.int .i64) x.2, [.obj 0 false (.d (.pair (.slice (.int .u8)) (.pair .bool .unit)) x.1)], []⟩
def rleft.add : rleft.D → rleft.Y → rleft.X := fun o0 y => (o0, y)


def rleft.Pre : rleft.D → Prop := fun _ => True
def rleft.F : rleft.D → rleft.Y := fun o => (o.1.length : Int)

noncomputable def rleft.G : Gam := gnil
noncomputable def rleft.an : Ann := {
  objs := [],
  loops := fun r => { keep := [], sites := [], frz := [], data := [], owns := [] },
  outs := fun r b => { keep := [], sites := [], frz := [], data := [], owns := [] },
  sums := fun r => none,
  owns := [],
  trim := [],
  res := [] }
theorem rleft.eq {R : Type} (o0 : ((List Int) × (Bool × Unit))) (k : GRes → Option R) : arun Try.prog rleft.G rleft.an 0 Try.f25 (rleft.st o0).1 (rleft.st o0).2 k =
  k (rleft.out (o0, (((List.length o0.1) : Nat) : Int))) := by kernel_rfl


theorem rleft.ok : ∀ d, rleft.Pre d → arun Try.prog rleft.G rleft.an 0 Try.f25 (rleft.st d).1 (rleft.st d).2 some = some (rleft.out (rleft.add d (rleft.F d))) := by
  intro o _
  rw [rleft.eq]
  rfl

theorem rleft.inj : ∀ d d', rleft.st d = rleft.st d' → d = d' := fun o0 o0' hEq => by
  have e0 : o0 = o0' := d_inj (t := (.pair (.slice (.int .u8)) (.pair .bool .unit))) (congrArg (fun s : List AVal × List Ent => (entD (s.2.getD 0 .dead))) hEq)
  rw [e0]
noncomputable def rleft.E : Entry := Entry.of [none] rleft.st rleft.Pre (fun d => rleft.add d (rleft.F d)) rleft.out
noncomputable def rleft.call : rleft.D → Option rleft.X := fun d => rleft.E.run (rleft.st d).1 (rleft.st d).2
theorem rleft.run {d : rleft.D} (h : rleft.Pre d) : rleft.call d = some (rleft.add d (rleft.F d)) := Entry.of_run rleft.inj h
theorem rleft.does : Does Try.prog 25 rleft.E := Does.of (by kernel_rfl) (show Sound _ rleft.G from Sound.nil _) (by kernel_rfl) (by kernel_rfl) (by kernel_rfl) (LOk.fn 0 (by kernel_rfl) trivial) rleft.ok

/-! ### (*corsned/code.Reader).Ok -/
abbrev rokk.D := ((List Int) × (Bool × Unit))
def rokk.st : rokk.D → List AVal × List Ent := fun o0 => ([.ptr (.old 0) 0 [] 0], [.obj 0 false (.d (.pair (.slice (.int .u8)) (.pair .bool .unit)) o0)])
abbrev rokk.Y := Bool
abbrev rokk.X := (((List Int) × (Bool × Unit))) × (Bool)
def rokk.out : rokk.X → GRes := fun x => ⟨.d .bool x.2, [.obj 0 false (.d (.pair (.slice (.int .u8)) (.pair .bool .unit)) x.1)], []⟩
def rokk.add : rokk.D → rokk.Y → rokk.X := fun o0 y => (o0, y)


def rokk.Pre : rokk.D → Prop := fun _ => True
def rokk.F : rokk.D → rokk.Y := fun o => !o.2.1

noncomputable def rokk.G : Gam := gnil
noncomputable def rokk.an : Ann := {
  objs := [],
  loops := fun r => { keep := [], sites := [], frz := [], data := [], owns := [] },
  outs := fun r b => { keep := [], sites := [], frz := [], data := [], owns := [] },
  sums := fun r => none,
  owns := [],
  trim := [],
  res := [] }
theorem rokk.eq {R : Type} (o0 : ((List Int) × (Bool × Unit))) (k : GRes → Option R) : arun Try.prog rokk.G rokk.an 0 Try.f26 (rokk.st o0).1 (rokk.st o0).2 k =
  k (rokk.out (o0, (!o0.2.1))) := by kernel_rfl


theorem rokk.ok : ∀ d, rokk.Pre d → arun Try.prog rokk.G rokk.an 0 Try.f26 (rokk.st d).1 (rokk.st d).2 some = some (rokk.out (rokk.add d (rokk.F d))) := by
  intro o _
  rw [rokk.eq]
  rfl

theorem rokk.inj : ∀ d d', rokk.st d = rokk.st d' → d = d' := fun o0 o0' hEq => by
  have e0 : o0 = o0' := d_inj (t := (.pair (.slice (.int .u8)) (.pair .bool .unit))) (congrArg (fun s : List AVal × List Ent => (entD (s.2.getD 0 .dead))) hEq)
  rw [e0]
noncomputable def rokk.E : Entry := Entry.of [none] rokk.st rokk.Pre (fun d => rokk.add d (rokk.F d)) rokk.out
noncomputable def rokk.call : rokk.D → Option rokk.X := fun d => rokk.E.run (rokk.st d).1 (rokk.st d).2
theorem rokk.run {d : rokk.D} (h : rokk.Pre d) : rokk.call d = some (rokk.add d (rokk.F d)) := Entry.of_run rokk.inj h
theorem rokk.does : Does Try.prog 26 rokk.E := Does.of (by kernel_rfl) (show Sound _ rokk.G from Sound.nil _) (by kernel_rfl) (by kernel_rfl) (by kernel_rfl) (LOk.fn 0 (by kernel_rfl) trivial) rokk.ok

/-! ### (*corsned/code.Reader).take -/
abbrev rtake.D := Int × ((List Int) × (Bool × Unit))
def rtake.st : rtake.D → List AVal × List Ent := fun (n, o0) => ([.ptr (.old 0) 0 [] 0, .d (.int .i64) n], [.obj 0 false (.d (.pair (.slice (.int .u8)) (.pair .bool .unit)) o0)])
abbrev rtake.Y := (List Int) × ((List Int) × (Bool × Unit))
abbrev rtake.X := (List Int) × ((List Int) × (Bool × Unit))
def rtake.out : rtake.X → GRes := fun x => ⟨.d (.slice (.int .u8)) x.1, [.obj 0 false (.d (.pair (.slice (.int .u8)) (.pair .bool .unit)) x.2)], []⟩
def rtake.add : rtake.D → rtake.Y → rtake.X := fun (n, o0) y => y


def rtake.Pre : rtake.D → Prop := fun (n, o) => 0 ≤ n ∧ o.1.length ≤ 1000000000
def rtake.F : rtake.D → rtake.Y := fun (n, o) => takeR n.toNat o

noncomputable def rtake.G : Gam := gcons 47 anyArgs rfail.E (gcons 45 anyArgs clone8.E (gnil))
noncomputable def rtake.an : Ann := {
  objs := [],
  loops := fun r => { keep := [], sites := [], frz := [], data := [], owns := [] },
  outs := fun r b => { keep := [], sites := [], frz := [], data := [], owns := [] },
  sums := fun r => none,
  owns := [],
  trim := [],
  res := [some (.slice (.int .u8))],
  dats := [⟨0, [.arr], (.pair (.slice (.int .u8)) (.pair .bool .unit))⟩] }
theorem rtake.eq {R : Type} (n : Int) (o0 : ((List Int) × (Bool × Unit))) (k : GRes → Option R) : arun Try.prog rtake.G rtake.an 0 Try.f48 (rtake.st (n, o0)).1 (rtake.st (n, o0)).2 k =
  sel (o0.2.1) (
   obind (rfail.call o0) fun x1 =>
   k (rtake.out (([] : List Int), x1))) (
   sel ((igt n (((List.length o0.1) : Nat) : Int))) (
    obind (rfail.call o0) fun x2 =>
    k (rtake.out (([] : List Int), x2))) (
    sel (inc n (((List.length o0.1) : Nat) : Int)) (
    obind (clone8.call (cut o0.1 0 ((Int.toNat n) - 0))) fun x3 =>
    sel (inc n (((List.length o0.1) : Nat) : Int)) (
    sel (decide (0 = 0 ∧ (0 + x3.1) ≤ (List.length x3.2))) (
    k (rtake.out ((cut x3.2 0 x3.1), ((cut o0.1 (Int.toNat n) ((List.length o0.1) - (Int.toNat n))), o0.2)))) none) none) none)) := by kernel_rfl


theorem rtake.ok : ∀ d, rtake.Pre d → arun Try.prog rtake.G rtake.an 0 Try.f48 (rtake.st d).1 (rtake.st d).2 some = some (rtake.out (rtake.add d (rtake.F d))) := by
  rintro ⟨n, o⟩ ⟨h0, hl⟩
  have h0 : 0 ≤ n := h0
  have hl : o.1.length ≤ 1000000000 := hl
  obtain ⟨k, rfl⟩ : ∃ k : Nat, n = k := ⟨n.toNat, by omega⟩
  rw [rtake.eq]
  simp only [rtake.add, rtake.F, takeR, Int.toNat_natCast, Nat.sub_zero]
  cases h2 : o.2.1
  · by_cases hn : o.1.length < k
    · rw [igt_true (by omega), if_pos (Or.inr hn), rfail.run (d := o) trivial]; rfl
    · have e1 : cut o.1 0 k = o.1.take k := rfl
      have e2 : cut o.1 k (o.1.length - k) = o.1.drop k := by unfold cut; rw [List.take_of_length_le]; rw [List.length_drop]; omega
      rw [igt_false (by omega), if_neg (by intro x; rcases x with x | x; exact absurd x (by decide); exact hn x), inc_true (by omega) (by omega), e1, e2, clone8.run (d := o.1.take k) (by show (o.1.take k).length ≤ _; rw [List.length_take]; omega)]
      simp only [sel_false, sel_true, obind_some, clone8.add, clone8.F, Nat.zero_add, Nat.le_refl, and_self, decide_true, cut_len]
  · rw [sel_true, if_pos (Or.inl rfl), rfail.run (d := o) trivial]; rfl

theorem rtake.inj : ∀ d d', rtake.st d = rtake.st d' → d = d' := fun (n, o0) (n', o0') hEq => by
  have e0 : n = n' := d_inj (t := (.int .i64)) (congrArg (fun s : List AVal × List Ent => (s.1.getD 1 .undef)) hEq)
  have e1 : o0 = o0' := d_inj (t := (.pair (.slice (.int .u8)) (.pair .bool .unit))) (congrArg (fun s : List AVal × List Ent => (entD (s.2.getD 0 .dead))) hEq)
  rw [e0, e1]
noncomputable def rtake.E : Entry := Entry.of [none, some (.int .i64)] rtake.st rtake.Pre (fun d => rtake.add d (rtake.F d)) rtake.out
noncomputable def rtake.call : rtake.D → Option rtake.X := fun d => rtake.E.run (rtake.st d).1 (rtake.st d).2
theorem rtake.run {d : rtake.D} (h : rtake.Pre d) : rtake.call d = some (rtake.add d (rtake.F d)) := Entry.of_run rtake.inj h
theorem rtake.does : Does Try.prog 48 rtake.E := Does.of (by kernel_rfl) (show Sound _ rtake.G from Sound.cons rfail.does (Sound.cons clone8.does (Sound.nil _))) (by kernel_rfl) (by kernel_rfl) (by kernel_rfl) (LOk.fn 0 (by kernel_rfl) trivial) rtake.ok

/-! ### (*corsned/code.Reader).U64 -/
abbrev ru64.L0.D := Int × (List Int) × Int × Int × ((List Int) × (Bool × Unit))
def ru64.L0.st : ru64.L0.D → AS := fun (n, t7, t8, t9, o0_2) => ⟨([.undef, .undef, .undef, .d (.int .u64) n, .undef, .undef, .undef, .d (.slice (.int .u8)) t7, .d (.int .i64) t8, .d (.int .i64) t9] ++ undN 10 []), [.obj 0 false (.d (.pair (.slice (.int .u8)) (.pair .bool .unit)) o0_2)], (List.replicate 20 [])⟩
abbrev ru64.L0.Y0 := Int  -- n
abbrev ru64.L0.X0 := (((List Int) × (Bool × Unit))) × (Int)
def ru64.L0.ex0 : ru64.L0.X0 → Exit × AS := fun x => (.exit 0, ⟨([.undef, .undef, .undef, .d (.int .u64) x.2] ++ undN 16 []), [.obj 0 false (.d (.pair (.slice (.int .u8)) (.pair .bool .unit)) x.1)], (List.replicate 20 [])⟩)
abbrev ru64.L0.X := ru64.L0.X0
abbrev ru64.L0.Y := ru64.L0.Y0
def ru64.L0.out : ru64.L0.X → Out (Exit × AS) := fun x => .ok (ru64.L0.ex0 x)
def ru64.L0.add : ru64.L0.D → ru64.L0.Y → ru64.L0.X := fun (n, t7, t8, t9, o0_2) y => (o0_2, y)
abbrev ru64.D := ((List Int) × (Bool × Unit))
def ru64.st : ru64.D → List AVal × List Ent := fun o0 => ([.ptr (.old 0) 0 [] 0], [.obj 0 false (.d (.pair (.slice (.int .u8)) (.pair .bool .unit)) o0)])
abbrev ru64.Y := Int × ((List Int) × (Bool × Unit))
abbrev ru64.X := Int × ((List Int) × (Bool × Unit))
def ru64.out : ru64.X → GRes := fun x => ⟨.d (.int .u64) x.1, [.obj 0 false (.d (.pair (.slice (.int .u8)) (.pair .bool .unit)) x.2)], []⟩
def ru64.add : ru64.D → ru64.Y → ru64.X := fun o0 y => y


def ru64.L0.Pre : ru64.L0.D → Prop := fun (n, l, m, i, o) => Bytes l ∧ l.length ≤ 8 ∧ m = l.length ∧ ∃ k : Nat, k ≤ l.length ∧ i = k ∧ n = num8 (l.take k)
def ru64.L0.F : ru64.L0.D → ru64.L0.Y := fun (n, l, m, i, o) => num8 l
def ru64.Pre : ru64.D → Prop := fun o => RdrB o
def ru64.F : ru64.D → ru64.Y := fun o => u64R o

noncomputable def ru64.G : Gam := gcons 48 anyArgs rtake.E (gnil)
noncomputable def ru64.L0.E : LEntry := LEntry.of ru64.L0.st ru64.L0.Pre (fun d => ru64.L0.add d (ru64.L0.F d)) ru64.L0.out
noncomputable def ru64.L0.call : ru64.L0.D → Option ru64.L0.X := fun d => ru64.L0.E.run (ru64.L0.st d)
noncomputable def ru64.an : Ann := {
  objs := [],
  loops := fun r => bif Nat.beq r 3 then { keep := [3, 7, 8, 9], sites := [], frz := [], data := [], owns := [] } else { keep := [], sites := [], frz := [], data := [], owns := [] },
  outs := fun r b => bif Nat.beq r 3 then (bif b then { keep := [2], sites := [], frz := [], data := [], owns := [] } else { keep := [3], sites := [], frz := [], data := [], owns := [] }) else { keep := [], sites := [], frz := [], data := [], owns := [] },
  sums := fun r => bif Nat.beq r 3 then some ru64.L0.E else none,
  owns := [],
  trim := [],
  res := [] }
theorem ru64.L0.inj : ∀ d d', ru64.L0.st d = ru64.L0.st d' → d = d' := fun (n, t7, t8, t9, o0_2) (n', t7', t8', t9', o0_2') hEq => by
  have e0 : n = n' := d_inj (t := (.int .u64)) (congrArg (fun s : AS => (s.slot 3)) hEq)
  have e1 : t7 = t7' := d_inj (t := (.slice (.int .u8))) (congrArg (fun s : AS => (s.slot 7)) hEq)
  have e2 : t8 = t8' := d_inj (t := (.int .i64)) (congrArg (fun s : AS => (s.slot 8)) hEq)
  have e3 : t9 = t9' := d_inj (t := (.int .i64)) (congrArg (fun s : AS => (s.slot 9)) hEq)
  have e4 : o0_2 = o0_2' := d_inj (t := (.pair (.slice (.int .u8)) (.pair .bool .unit))) (congrArg (fun s : AS => (entC (s.ent (.old 0)))) hEq)
  rw [e0, e1, e2, e3, e4]
theorem ru64.L0.run {d : ru64.L0.D} (h : ru64.L0.Pre d) : ru64.L0.call d = some (ru64.L0.add d (ru64.L0.F d)) := LEntry.of_run ru64.L0.inj h
theorem ru64.L0.byRounds (μ : ru64.L0.D → Nat) (h : ∀ d, ru64.L0.Pre d → (∃ d', ru64.L0.Pre d' ∧ μ d' < μ d ∧ ru64.L0.add d' (ru64.L0.F d') = ru64.L0.add d (ru64.L0.F d) ∧ ∀ {R : Type} (kn : AS → Option R) (kx : Exit → AS → Option R), lround Try.prog ru64.G ru64.an 0 Try.f24 0 (ru64.L0.st d) kn kx = kn (ru64.L0.st d')) ∨ (∀ {R : Type} (kn : AS → Option R) (kx : Exit → AS → Option R), lround Try.prog ru64.G ru64.an 0 Try.f24 0 (ru64.L0.st d) kn kx = kx (ru64.L0.ex0 (ru64.L0.add d (ru64.L0.F d))).1 (ru64.L0.ex0 (ru64.L0.add d (ru64.L0.F d))).2)) : ∀ d, ru64.L0.Pre d → ∃ n, lrun Try.prog ru64.G ru64.an 0 Try.f24 0 n (ru64.L0.st d) (fun e s => some (e, s)) = (ru64.L0.out (ru64.L0.add d (ru64.L0.F d))).eval := lrun_one (F := fun d => ru64.L0.add d (ru64.L0.F d)) μ h
theorem ru64.L0.step {R : Type} (n : Int) (t7 : (List Int)) (t8 : Int) (t9 : Int) (o0_2 : ((List Int) × (Bool × Unit))) (kn : AS → Option R) (kx : Exit → AS → Option R) : lround Try.prog ru64.G ru64.an 0 Try.f24 0 (ru64.L0.st (n, t7, t8, t9, o0_2)) kn kx =
  sel ((ilt t9 t8)) (
   sel (inb t9 (((List.length t7) : Nat) : Int)) (
   kn (ru64.L0.st ((bitop .or .u64 (ishl .u64 n (8 : Int)) (icv .u64 (nth (.int .u8) t7 (Int.toNat t9)))), t7, t8, (iadd .i64 t9 (1 : Int)), o0_2))) none) (
   kx (ru64.L0.ex0 (o0_2, n)).1 (ru64.L0.ex0 (o0_2, n)).2) := by kernel_rfl
theorem ru64.eq {R : Type} (o0 : ((List Int) × (Bool × Unit))) (k : GRes → Option R) : arun Try.prog ru64.G ru64.an 0 Try.f24 (ru64.st o0).1 (ru64.st o0).2 k =
  obind (rtake.call ((8 : Int), o0)) fun x1 =>
  obind (ru64.L0.call ((0 : Int), x1.1, (((List.length x1.1) : Nat) : Int), (0 : Int), x1.2)) fun x2 =>
  k (ru64.out (x2.2, x2.1)) := by kernel_rfl


theorem ru64.L0.ok : ∀ d, ru64.L0.Pre d → ∃ n, lrun Try.prog ru64.G ru64.an 0 Try.f24 0 n (ru64.L0.st d) (fun e s => some (e, s)) = (ru64.L0.out (ru64.L0.add d (ru64.L0.F d))).eval := by
  refine ru64.L0.byRounds (fun (n, l, m, i, o) => l.length - i.toNat) ?_
  rintro ⟨n, l, m, i, o⟩ ⟨hb, h8, rfl, k, hk, rfl, rfl⟩
  have h8 : l.length ≤ 8 := h8
  have hk : k ≤ l.length := hk
  by_cases h : k < l.length
  · left
    have hx := hb _ (List.getElem_mem h)
    have n1 : nth (.int .u8) l k = l[k] := nth_lt (t := .int .u8) h
    have ht : (l.take k).length = k := by rw [List.length_take]; omega
    have b0 := num8_ok (l := l.take k) fun x hx => hb x (List.mem_of_mem_take hx)
    rw [ht] at b0
    have b1 := pow256_le (show k ≤ 7 by omega)
    have b2 : (256 : Int) ^ 7 = 72057594037927936 := rfl
    refine ⟨(num8 (l.take (k + 1)), l, l.length, ((k + 1 : Nat) : Int), o), ⟨hb, h8, rfl, k + 1, by omega, rfl, rfl⟩, by simp only [Int.toNat_natCast]; omega, rfl, fun kn kx => ?_⟩
    rw [ru64.L0.step, ilt_true (by omega), inb_true (by omega) (by omega), Int.toNat_natCast, n1, N.aNL (by omega), step8 b0.1 (by omega) hx, List.take_succ_eq_append_getElem h, num8_snoc]
    rfl
  · right
    obtain rfl : k = l.length := by omega
    intro R kn kx
    rw [ru64.L0.step, ilt_false (by omega), sel_false, List.take_length]
    rfl
theorem ru64.ok : ∀ d, ru64.Pre d → arun Try.prog ru64.G ru64.an 0 Try.f24 (ru64.st d).1 (ru64.st d).2 some = some (ru64.out (ru64.add d (ru64.F d))) := by
  intro o h
  have h : RdrB o := h
  have t := takeR_b (n := 8) h
  rw [ru64.eq, rtake.run (d := (8, o)) ⟨by decide, h.1⟩]
  simp only [obind_some, rtake.add, rtake.F]
  rw [show Int.toNat 8 = 8 from rfl, ru64.L0.run (d := (0, (takeR 8 o).1, (takeR 8 o).1.length, 0, (takeR 8 o).2)) ⟨t.2.1, t.1, rfl, 0, Nat.zero_le _, rfl, rfl⟩]
  rfl

theorem ru64.inj : ∀ d d', ru64.st d = ru64.st d' → d = d' := fun o0 o0' hEq => by
  have e0 : o0 = o0' := d_inj (t := (.pair (.slice (.int .u8)) (.pair .bool .unit))) (congrArg (fun s : List AVal × List Ent => (entD (s.2.getD 0 .dead))) hEq)
  rw [e0]
noncomputable def ru64.E : Entry := Entry.of [none] ru64.st ru64.Pre (fun d => ru64.add d (ru64.F d)) ru64.out
noncomputable def ru64.call : ru64.D → Option ru64.X := fun d => ru64.E.run (ru64.st d).1 (ru64.st d).2
theorem ru64.run {d : ru64.D} (h : ru64.Pre d) : ru64.call d = some (ru64.add d (ru64.F d)) := Entry.of_run ru64.inj h
theorem ru64.does : Does Try.prog 24 ru64.E := Does.of (by kernel_rfl) (show Sound _ ru64.G from Sound.cons rtake.does (Sound.nil _)) (by kernel_rfl) (by kernel_rfl) (by kernel_rfl) (LOk.fn 1 (by kernel_rfl) (And.intro (LDo.of (by kernel_rfl) ru64.L0.ok) trivial)) ru64.ok

/-! ### corsned/code.Open -/
abbrev ropen.D := (List Int)
def ropen.st : ropen.D → List AVal × List Ent := fun b => ([.d (.slice (.int .u8)) b], [])
abbrev ropen.Y := ((List Int) × (Bool × Unit))
abbrev ropen.X := ((List Int) × (Bool × Unit))
def ropen.out : ropen.X → GRes := fun x => ⟨.ptr (.new 0 0) 0 [] 0, [], [.obj 0 false (.d (.pair (.slice (.int .u8)) (.pair .bool .unit)) x)]⟩
def ropen.add : ropen.D → ropen.Y → ropen.X := fun b y => y


def ropen.Pre : ropen.D → Prop := fun b => b.length ≤ 1000000000
def ropen.F : ropen.D → ropen.Y := fun b => (b, false, ())

noncomputable def ropen.G : Gam := gcons 45 anyArgs clone8.E (gnil)
noncomputable def ropen.an : Ann := {
  objs := [6],
  loops := fun r => { keep := [], sites := [], frz := [], data := [], owns := [] },
  outs := fun r b => { keep := [], sites := [], frz := [], data := [], owns := [] },
  sums := fun r => none,
  owns := [],
  trim := [],
  res := [],
  dats := [⟨2, [.arr], (.pair (.slice (.int .u8)) (.pair .bool .unit))⟩] }
theorem ropen.eq {R : Type} (b : (List Int)) (k : GRes → Option R) : arun Try.prog ropen.G ropen.an 0 Try.f22 (ropen.st b).1 (ropen.st b).2 k =
  obind (clone8.call b) fun x1 =>
  sel (decide (0 = 0 ∧ (0 + x1.1) ≤ (List.length x1.2))) (
  k (ropen.out ((cut x1.2 0 x1.1), (false, ())))) none := by kernel_rfl


theorem ropen.ok : ∀ d, ropen.Pre d → arun Try.prog ropen.G ropen.an 0 Try.f22 (ropen.st d).1 (ropen.st d).2 some = some (ropen.out (ropen.add d (ropen.F d))) := by
  intro b hb
  have hb : b.length ≤ 1000000000 := hb
  rw [ropen.eq, clone8.run (d := b) (by show b.length ≤ _; omega)]
  simp only [obind_some, clone8.add, clone8.F, Nat.zero_add, Nat.le_refl, and_self, decide_true, sel_true, cut_len]
  rfl

theorem ropen.inj : ∀ d d', ropen.st d = ropen.st d' → d = d' := fun b b' hEq => by
  have e0 : b = b' := d_inj (t := (.slice (.int .u8))) (congrArg (fun s : List AVal × List Ent => (s.1.getD 0 .undef)) hEq)
  rw [e0]
noncomputable def ropen.E : Entry := Entry.of [some (.slice (.int .u8))] ropen.st ropen.Pre (fun d => ropen.add d (ropen.F d)) ropen.out
noncomputable def ropen.call : ropen.D → Option ropen.X := fun d => ropen.E.run (ropen.st d).1 (ropen.st d).2
theorem ropen.run {d : ropen.D} (h : ropen.Pre d) : ropen.call d = some (ropen.add d (ropen.F d)) := Entry.of_run ropen.inj h
theorem ropen.does : Does Try.prog 22 ropen.E := Does.of (by kernel_rfl) (show Sound _ ropen.G from Sound.cons clone8.does (Sound.nil _)) (by kernel_rfl) (by kernel_rfl) (by kernel_rfl) (LOk.fn 0 (by kernel_rfl) trivial) ropen.ok

/-! ### (*corsned/code.Reader).Num$1 -/
abbrev rwrong.D := Int × ((List Int) × (Bool × Unit))
def rwrong.st : rwrong.D → List AVal × List Ent := fun (o0, o2) => ([.ptr (.old 0) 0 [] 0, .ptr (.old 1) 0 [] 0], [.obj 0 false (.d (.int .i64) o0), .obj 0 false (.ptr (.old 2) 0 [] 0), .obj 0 false (.d (.pair (.slice (.int .u8)) (.pair .bool .unit)) o2)])
abbrev rwrong.Y := Bool
abbrev rwrong.X := (Int × ((List Int) × (Bool × Unit))) × (Bool)
def rwrong.out : rwrong.X → GRes := fun x => ⟨.d .bool x.2, [.obj 0 false (.d (.int .i64) x.1.1), .obj 0 false (.ptr (.old 2) 0 [] 0), .obj 0 false (.d (.pair (.slice (.int .u8)) (.pair .bool .unit)) x.1.2)], []⟩
def rwrong.add : rwrong.D → rwrong.Y → rwrong.X := fun (o0, o2) y => ((o0, o2), y)


def rwrong.Pre : rwrong.D → Prop := fun (a, o) => 0 ≤ a
def rwrong.F : rwrong.D → rwrong.Y := fun (a, o) => decide (o.1.length ≤ a.toNat ∨ 8 < a.toNat ∨ (0 < a.toNat ∧ nth (.int .u8) o.1 a.toNat = 0))

noncomputable def rwrong.G : Gam := gnil
noncomputable def rwrong.an : Ann := {
  objs := [],
  loops := fun r => { keep := [], sites := [], frz := [], data := [], owns := [] },
  outs := fun r b => { keep := [], sites := [], frz := [], data := [], owns := [] },
  sums := fun r => none,
  owns := [],
  trim := [],
  res := [] }
theorem rwrong.eq {R : Type} (o0 : Int) (o2 : ((List Int) × (Bool × Unit))) (k : GRes → Option R) : arun Try.prog rwrong.G rwrong.an 0 Try.f46 (rwrong.st (o0, o2)).1 (rwrong.st (o0, o2)).2 k =
  sel ((ige o0 (((List.length o2.1) : Nat) : Int))) (
   k (rwrong.out ((o0, o2), true))) (
   sel ((igt o0 (8 : Int))) (
    k (rwrong.out ((o0, o2), true))) (
    sel ((igt o0 (0 : Int))) (
     sel (inb o0 (((List.length o2.1) : Nat) : Int)) (
     k (rwrong.out ((o0, o2), (ieq (nth (.int .u8) o2.1 (Int.toNat o0)) (0 : Int))))) none) (
     k (rwrong.out ((o0, o2), false))))) := by kernel_rfl


theorem rwrong.ok : ∀ d, rwrong.Pre d → arun Try.prog rwrong.G rwrong.an 0 Try.f46 (rwrong.st d).1 (rwrong.st d).2 some = some (rwrong.out (rwrong.add d (rwrong.F d))) := by
  rintro ⟨a, o⟩ h0
  obtain ⟨k, rfl⟩ : ∃ k : Nat, a = k := ⟨a.toNat, by have h0 : 0 ≤ a := h0; omega⟩
  rw [rwrong.eq]
  simp only [rwrong.add, rwrong.F, Int.toNat_natCast]
  by_cases h1 : o.1.length ≤ k
  · rw [ige_true (by omega), dec_true (Or.inl h1)]; rfl
  by_cases h2 : 8 < k
  · rw [ige_false (by omega), igt_true (by omega), dec_true (Or.inr (Or.inl h2))]; rfl
  by_cases h3 : 0 < k
  · rw [ige_false (by omega), igt_false (by omega), igt_true (by omega), inb_true (by omega) (by omega)]
    simp only [sel_false, sel_true]
    by_cases h4 : nth (.int .u8) o.1 k = 0
    · rw [ieq_true h4, dec_true (Or.inr (Or.inr ⟨h3, h4⟩))]
    · rw [ieq_false h4, dec_false (by rintro (x | x | x); exact h1 x; exact h2 x; exact h4 x.2)]
  · rw [ige_false (by omega), igt_false (by omega), igt_false (by omega), dec_false (by rintro (x | x | x); exact h1 x; exact h2 x; exact h3 x.1)]; rfl

theorem rwrong.inj : ∀ d d', rwrong.st d = rwrong.st d' → d = d' := fun (o0, o2) (o0', o2') hEq => by
  have e0 : o0 = o0' := d_inj (t := (.int .i64)) (congrArg (fun s : List AVal × List Ent => (entD (s.2.getD 0 .dead))) hEq)
  have e1 : o2 = o2' := d_inj (t := (.pair (.slice (.int .u8)) (.pair .bool .unit))) (congrArg (fun s : List AVal × List Ent => (entD (s.2.getD 2 .dead))) hEq)
  rw [e0, e1]
noncomputable def rwrong.E : Entry := Entry.of [none, none] rwrong.st rwrong.Pre (fun d => rwrong.add d (rwrong.F d)) rwrong.out
noncomputable def rwrong.call : rwrong.D → Option rwrong.X := fun d => rwrong.E.run (rwrong.st d).1 (rwrong.st d).2
theorem rwrong.run {d : rwrong.D} (h : rwrong.Pre d) : rwrong.call d = some (rwrong.add d (rwrong.F d)) := Entry.of_run rwrong.inj h
theorem rwrong.does : Does Try.prog 46 rwrong.E := Does.of (by kernel_rfl) (show Sound _ rwrong.G from Sound.nil _) (by kernel_rfl) (by kernel_rfl) (by kernel_rfl) (LOk.fn 0 (by kernel_rfl) trivial) rwrong.ok

end Go.Ab
