/-
  Made by a program of mine (wip/gen), and by hand.
-/
import Derived.Test.YtglpcfdjdabdnaaLk2
namespace Go.Ab
open Go.Proofs
set_option maxRecDepth 100000
set_option linter.unusedVariables false
set_option linter.unusedSimpArgs false

/-! ### slices.Equal[[]byte,byte] -/
abbrev beq8.L0.D := (List Int) × (List Int) × Int × Int
def beq8.L0.st : beq8.L0.D → AS := fun (s1_2, s2_2, t12, t13) => ⟨([.d (.slice (.int .u8)) s1_2, .d (.slice (.int .u8)) s2_2] ++ undN 10 ([.d (.int .i64) t12, .d (.int .i64) t13] ++ undN 12 [])), [], (List.replicate 26 [])⟩
abbrev beq8.L0.Y0 := Unit
abbrev beq8.L0.X0 := Unit
def beq8.L0.ex0 : beq8.L0.X0 → Exit × AS := fun x => (.ret, ⟨(undN 4 ([.d .bool false] ++ undN 21 [])), [], (List.replicate 26 [])⟩)
abbrev beq8.L0.Y1 := Unit
abbrev beq8.L0.X1 := Unit
def beq8.L0.ex1 : beq8.L0.X1 → Exit × AS := fun x => (.exit 0, ⟨(undN 26 []), [], (List.replicate 26 [])⟩)
abbrev beq8.L0.X := (beq8.L0.X0) ⊕ (beq8.L0.X1)
abbrev beq8.L0.Y := (beq8.L0.Y0) ⊕ (beq8.L0.Y1)
def beq8.L0.out : beq8.L0.X → Out (Exit × AS) := fun x => .br x.isLeft (.get x.getLeft? fun a => .ok (beq8.L0.ex0 a)) (.get x.getRight? fun b => .ok (beq8.L0.ex1 b))
def beq8.L0.add : beq8.L0.D → beq8.L0.Y → beq8.L0.X := fun (s1_2, s2_2, t12, t13) y => match y with | .inl y => .inl y | .inr z => .inr (z)
abbrev beq8.D := (List Int) × (List Int)
def beq8.st : beq8.D → List AVal × List Ent := fun (s1, s2) => ([.d (.slice (.int .u8)) s1, .d (.slice (.int .u8)) s2], [])
abbrev beq8.Y := Bool
abbrev beq8.X := Bool
def beq8.out : beq8.X → GRes := fun x => ⟨.d .bool x, [], []⟩
def beq8.add : beq8.D → beq8.Y → beq8.X := fun (s1, s2) y => y


def beq8.L0.Pre : beq8.L0.D → Prop := fun (a, b, m, i) => a.length ≤ 1000000000 ∧ a.length = b.length ∧ m = a.length ∧ ∃ k : Nat, k ≤ a.length ∧ i = k
def beq8.L0.F : beq8.L0.D → beq8.L0.Y := fun (a, b, m, i) => if a.drop i.toNat = b.drop i.toNat then .inr () else .inl ()
def beq8.Pre : beq8.D → Prop := fun (a, b) => a.length ≤ 1000000000
def beq8.F : beq8.D → beq8.Y := fun (a, b) => decide (a = b)

noncomputable def beq8.G : Gam := gnil
noncomputable def beq8.L0.E : LEntry := LEntry.of beq8.L0.st beq8.L0.Pre (fun d => beq8.L0.add d (beq8.L0.F d)) beq8.L0.out
noncomputable def beq8.L0.call : beq8.L0.D → Option beq8.L0.X := fun d => beq8.L0.E.run (beq8.L0.st d)
noncomputable def beq8.an : Ann := {
  objs := [],
  loops := fun r => bif Nat.beq r 4 then { keep := [0, 1, 12, 13], sites := [], frz := [], data := [], owns := [] } else { keep := [], sites := [], frz := [], data := [], owns := [] },
  outs := fun r b => bif Nat.beq r 4 then (bif b then { keep := [4], sites := [], frz := [], data := [], owns := [] } else { keep := [], sites := [], frz := [], data := [], owns := [] }) else { keep := [], sites := [], frz := [], data := [], owns := [] },
  sums := fun r => bif Nat.beq r 4 then some beq8.L0.E else none,
  owns := [],
  trim := [],
  res := [] }
theorem beq8.L0.inj : ∀ d d', beq8.L0.st d = beq8.L0.st d' → d = d' := fun (s1_2, s2_2, t12, t13) (s1_2', s2_2', t12', t13') hEq => by
  have e0 : s1_2 = s1_2' := d_inj (t := (.slice (.int .u8))) (congrArg (fun s : AS => (s.slot 0)) hEq)
  have e1 : s2_2 = s2_2' := d_inj (t := (.slice (.int .u8))) (congrArg (fun s : AS => (s.slot 1)) hEq)
  have e2 : t12 = t12' := d_inj (t := (.int .i64)) (congrArg (fun s : AS => (s.slot 12)) hEq)
  have e3 : t13 = t13' := d_inj (t := (.int .i64)) (congrArg (fun s : AS => (s.slot 13)) hEq)
  rw [e0, e1, e2, e3]
theorem beq8.L0.run {d : beq8.L0.D} (h : beq8.L0.Pre d) : beq8.L0.call d = some (beq8.L0.add d (beq8.L0.F d)) := LEntry.of_run beq8.L0.inj h
theorem beq8.L0.byRounds (μ : beq8.L0.D → Nat) (h : ∀ d, beq8.L0.Pre d → (∃ d', beq8.L0.Pre d' ∧ μ d' < μ d ∧ beq8.L0.add d' (beq8.L0.F d') = beq8.L0.add d (beq8.L0.F d) ∧ ∀ {R : Type} (kn : AS → Option R) (kx : Exit → AS → Option R), lround Try.prog beq8.G beq8.an 0 Try.f50 0 (beq8.L0.st d) kn kx = kn (beq8.L0.st d')) ∨ (∃ r, (beq8.L0.out (beq8.L0.add d (beq8.L0.F d))).eval = some r ∧ ∀ {R : Type} (kn : AS → Option R) (kx : Exit → AS → Option R), lround Try.prog beq8.G beq8.an 0 Try.f50 0 (beq8.L0.st d) kn kx = kx r.1 r.2)) : ∀ d, beq8.L0.Pre d → ∃ n, lrun Try.prog beq8.G beq8.an 0 Try.f50 0 n (beq8.L0.st d) (fun e s => some (e, s)) = (beq8.L0.out (beq8.L0.add d (beq8.L0.F d))).eval := lrun_of (F := fun d => beq8.L0.add d (beq8.L0.F d)) (out := beq8.L0.out) μ h
theorem beq8.L0.step {R : Type} (s1_2 : (List Int)) (s2_2 : (List Int)) (t12 : Int) (t13 : Int) (kn : AS → Option R) (kx : Exit → AS → Option R) : lround Try.prog beq8.G beq8.an 0 Try.f50 0 (beq8.L0.st (s1_2, s2_2, t12, t13)) kn kx =
  sel ((ilt t13 t12)) (
   sel (inb t13 (((List.length s1_2) : Nat) : Int)) (
   sel (inb t13 (((List.length s2_2) : Nat) : Int)) (
   sel ((ine (nth (.int .u8) s1_2 (Int.toNat t13)) (nth (.int .u8) s2_2 (Int.toNat t13)))) (
    kx (beq8.L0.ex0 ()).1 (beq8.L0.ex0 ()).2) (
    kn (beq8.L0.st (s1_2, s2_2, t12, (iadd .i64 t13 (1 : Int)))))) none) none) (
   kx (beq8.L0.ex1 ()).1 (beq8.L0.ex1 ()).2) := by kernel_rfl
theorem beq8.eq {R : Type} (s1 : (List Int)) (s2 : (List Int)) (k : GRes → Option R) : arun Try.prog beq8.G beq8.an 0 Try.f50 (beq8.st (s1, s2)).1 (beq8.st (s1, s2)).2 k =
  sel ((ine (((List.length s1) : Nat) : Int) (((List.length s2) : Nat) : Int))) (
   k (beq8.out false)) (
   obind (beq8.L0.call (s1, s2, (((List.length s1) : Nat) : Int), (0 : Int))) fun x1 =>
   sel (x1.isLeft) (
    obind (x1.getLeft?) fun a2 =>
    k (beq8.out false)) (
    obind (x1.getRight?) fun b3 =>
    k (beq8.out true))) := by kernel_rfl


theorem beq8.L0.ok : ∀ d, beq8.L0.Pre d → ∃ n, lrun Try.prog beq8.G beq8.an 0 Try.f50 0 n (beq8.L0.st d) (fun e s => some (e, s)) = (beq8.L0.out (beq8.L0.add d (beq8.L0.F d))).eval := by
  refine beq8.L0.byRounds (fun (a, b, m, i) => a.length - i.toNat) ?_
  rintro ⟨a, b, m, i⟩ ⟨hl, hab, rfl, k, hk, rfl⟩
  have hl : a.length ≤ 1000000000 := hl
  have hab : a.length = b.length := hab
  have hk : k ≤ a.length := hk
  by_cases h : k < a.length
  · have h2 : k < b.length := by omega
    have n1 : nth (.int .u8) a k = a[k] := nth_lt (t := (.int .u8)) h
    have n2 : nth (.int .u8) b k = b[k] := nth_lt (t := (.int .u8)) h2
    have hd : (a.drop k = b.drop k) = (a[k] = b[k] ∧ a.drop (k + 1) = b.drop (k + 1)) := by rw [List.drop_eq_getElem_cons h, List.drop_eq_getElem_cons h2, List.cons.injEq]
    have step : ∀ {R : Type} (kn : AS → Option R) (kx : Exit → AS → Option R), lround Try.prog beq8.G beq8.an 0 Try.f50 0 (beq8.L0.st (a, b, (a.length : Int), (k : Int))) kn kx = if a[k] = b[k] then kn (beq8.L0.st (a, b, (a.length : Int), ((k + 1 : Nat) : Int))) else kx (beq8.L0.ex0 ()).1 (beq8.L0.ex0 ()).2 := by
      intro R kn kx
      rw [beq8.L0.step, ilt_true (by omega), inb_true (by omega) (by omega), inb_true (by omega) (by omega), Int.toNat_natCast, n1, n2, N.aNL (by omega)]
      simp only [sel_true]
      by_cases hx : a[k] = b[k]
      · rw [ine_false hx, if_pos hx]; rfl
      · rw [ine_true hx, if_neg hx]; rfl
    by_cases hx : a[k] = b[k]
    · left
      refine ⟨(a, b, (a.length : Int), ((k + 1 : Nat) : Int)), ⟨hl, hab, rfl, k + 1, by omega, rfl⟩, by simp only [Int.toNat_natCast]; omega, ?_, fun kn kx => ?_⟩
      · simp only [beq8.L0.add, beq8.L0.F, Int.toNat_natCast, hd, hx, true_and]
      · rw [step, if_pos hx]
    · right
      refine ⟨beq8.L0.ex0 (), ?_, fun kn kx => ?_⟩
      · simp only [beq8.L0.add, beq8.L0.F, Int.toNat_natCast, hd, hx, false_and, if_false]
        rfl
      · rw [step, if_neg hx]
  · right
    obtain rfl : k = a.length := by omega
    refine ⟨beq8.L0.ex1 (), ?_, fun kn kx => ?_⟩
    · simp only [beq8.L0.add, beq8.L0.F, Int.toNat_natCast, List.drop_length]
      rw [hab, List.drop_length, if_pos rfl]
      rfl
    · rw [beq8.L0.step, ilt_false (by omega), sel_false]
theorem beq8.ok : ∀ d, beq8.Pre d → arun Try.prog beq8.G beq8.an 0 Try.f50 (beq8.st d).1 (beq8.st d).2 some = some (beq8.out (beq8.add d (beq8.F d))) := by
  rintro ⟨a, b⟩ hl
  have hl : a.length ≤ 1000000000 := hl
  rw [beq8.eq]
  simp only [beq8.add, beq8.F]
  by_cases h : a.length = b.length
  · rw [ine_false (by omega), sel_false, beq8.L0.run (d := (a, b, (a.length : Int), 0)) ⟨hl, h, rfl, 0, Nat.zero_le _, rfl⟩]
    simp only [obind_some, beq8.L0.add, beq8.L0.F, Int.toNat_zero, List.drop_zero]
    by_cases hx : a = b
    · rw [if_pos hx, dec_true hx]; rfl
    · rw [if_neg hx, dec_false hx]; rfl
  · rw [ine_true (by omega), dec_false (fun x => h (by rw [x]))]; rfl

theorem beq8.inj : ∀ d d', beq8.st d = beq8.st d' → d = d' := fun (s1, s2) (s1', s2') hEq => by
  have e0 : s1 = s1' := d_inj (t := (.slice (.int .u8))) (congrArg (fun s : List AVal × List Ent => (s.1.getD 0 .undef)) hEq)
  have e1 : s2 = s2' := d_inj (t := (.slice (.int .u8))) (congrArg (fun s : List AVal × List Ent => (s.1.getD 1 .undef)) hEq)
  rw [e0, e1]
noncomputable def beq8.E : Entry := Entry.of [some (.slice (.int .u8)), some (.slice (.int .u8))] beq8.st beq8.Pre (fun d => beq8.add d (beq8.F d)) beq8.out
noncomputable def beq8.call : beq8.D → Option beq8.X := fun d => beq8.E.run (beq8.st d).1 (beq8.st d).2
theorem beq8.run {d : beq8.D} (h : beq8.Pre d) : beq8.call d = some (beq8.add d (beq8.F d)) := Entry.of_run beq8.inj h
theorem beq8.does : Does Try.prog 50 beq8.E := Does.of (by kernel_rfl) (show Sound _ beq8.G from Sound.nil _) (by kernel_rfl) (by kernel_rfl) (by kernel_rfl) (LOk.fn 1 (by kernel_rfl) (And.intro (LDo.of (by kernel_rfl) beq8.L0.ok) trivial)) beq8.ok

/-! ### slices.Equal[[]corsned/api.Point,corsned/api.Point] -/
abbrev peq.L0.D := (List Int) × (List Int) × Int × Int
def peq.L0.st : peq.L0.D → AS := fun (s1_2, s2_2, t12, t13) => ⟨([.d (.slice (.int .u64)) s1_2, .d (.slice (.int .u64)) s2_2] ++ undN 10 ([.d (.int .i64) t12, .d (.int .i64) t13] ++ undN 12 [])), [], (List.replicate 26 [])⟩
abbrev peq.L0.Y0 := Unit
abbrev peq.L0.X0 := Unit
def peq.L0.ex0 : peq.L0.X0 → Exit × AS := fun x => (.ret, ⟨(undN 4 ([.d .bool false] ++ undN 21 [])), [], (List.replicate 26 [])⟩)
abbrev peq.L0.Y1 := Unit
abbrev peq.L0.X1 := Unit
def peq.L0.ex1 : peq.L0.X1 → Exit × AS := fun x => (.exit 0, ⟨(undN 26 []), [], (List.replicate 26 [])⟩)
abbrev peq.L0.X := (peq.L0.X0) ⊕ (peq.L0.X1)
abbrev peq.L0.Y := (peq.L0.Y0) ⊕ (peq.L0.Y1)
def peq.L0.out : peq.L0.X → Out (Exit × AS) := fun x => .br x.isLeft (.get x.getLeft? fun a => .ok (peq.L0.ex0 a)) (.get x.getRight? fun b => .ok (peq.L0.ex1 b))
def peq.L0.add : peq.L0.D → peq.L0.Y → peq.L0.X := fun (s1_2, s2_2, t12, t13) y => match y with | .inl y => .inl y | .inr z => .inr (z)
abbrev peq.D := (List Int) × (List Int)
def peq.st : peq.D → List AVal × List Ent := fun (s1, s2) => ([.d (.slice (.int .u64)) s1, .d (.slice (.int .u64)) s2], [])
abbrev peq.Y := Bool
abbrev peq.X := Bool
def peq.out : peq.X → GRes := fun x => ⟨.d .bool x, [], []⟩
def peq.add : peq.D → peq.Y → peq.X := fun (s1, s2) y => y


def peq.L0.Pre : peq.L0.D → Prop := fun (a, b, m, i) => a.length ≤ 1000000000 ∧ a.length = b.length ∧ m = a.length ∧ ∃ k : Nat, k ≤ a.length ∧ i = k
def peq.L0.F : peq.L0.D → peq.L0.Y := fun (a, b, m, i) => if a.drop i.toNat = b.drop i.toNat then .inr () else .inl ()
def peq.Pre : peq.D → Prop := fun (a, b) => a.length ≤ 1000000000
def peq.F : peq.D → peq.Y := fun (a, b) => decide (a = b)

noncomputable def peq.G : Gam := gnil
noncomputable def peq.L0.E : LEntry := LEntry.of peq.L0.st peq.L0.Pre (fun d => peq.L0.add d (peq.L0.F d)) peq.L0.out
noncomputable def peq.L0.call : peq.L0.D → Option peq.L0.X := fun d => peq.L0.E.run (peq.L0.st d)
noncomputable def peq.an : Ann := {
  objs := [],
  loops := fun r => bif Nat.beq r 4 then { keep := [0, 1, 12, 13], sites := [], frz := [], data := [], owns := [] } else { keep := [], sites := [], frz := [], data := [], owns := [] },
  outs := fun r b => bif Nat.beq r 4 then (bif b then { keep := [4], sites := [], frz := [], data := [], owns := [] } else { keep := [], sites := [], frz := [], data := [], owns := [] }) else { keep := [], sites := [], frz := [], data := [], owns := [] },
  sums := fun r => bif Nat.beq r 4 then some peq.L0.E else none,
  owns := [],
  trim := [],
  res := [] }
theorem peq.L0.inj : ∀ d d', peq.L0.st d = peq.L0.st d' → d = d' := fun (s1_2, s2_2, t12, t13) (s1_2', s2_2', t12', t13') hEq => by
  have e0 : s1_2 = s1_2' := d_inj (t := (.slice (.int .u64))) (congrArg (fun s : AS => (s.slot 0)) hEq)
  have e1 : s2_2 = s2_2' := d_inj (t := (.slice (.int .u64))) (congrArg (fun s : AS => (s.slot 1)) hEq)
  have e2 : t12 = t12' := d_inj (t := (.int .i64)) (congrArg (fun s : AS => (s.slot 12)) hEq)
  have e3 : t13 = t13' := d_inj (t := (.int .i64)) (congrArg (fun s : AS => (s.slot 13)) hEq)
  rw [e0, e1, e2, e3]
theorem peq.L0.run {d : peq.L0.D} (h : peq.L0.Pre d) : peq.L0.call d = some (peq.L0.add d (peq.L0.F d)) := LEntry.of_run peq.L0.inj h
theorem peq.L0.byRounds (μ : peq.L0.D → Nat) (h : ∀ d, peq.L0.Pre d → (∃ d', peq.L0.Pre d' ∧ μ d' < μ d ∧ peq.L0.add d' (peq.L0.F d') = peq.L0.add d (peq.L0.F d) ∧ ∀ {R : Type} (kn : AS → Option R) (kx : Exit → AS → Option R), lround Try.prog peq.G peq.an 0 Try.f53 0 (peq.L0.st d) kn kx = kn (peq.L0.st d')) ∨ (∃ r, (peq.L0.out (peq.L0.add d (peq.L0.F d))).eval = some r ∧ ∀ {R : Type} (kn : AS → Option R) (kx : Exit → AS → Option R), lround Try.prog peq.G peq.an 0 Try.f53 0 (peq.L0.st d) kn kx = kx r.1 r.2)) : ∀ d, peq.L0.Pre d → ∃ n, lrun Try.prog peq.G peq.an 0 Try.f53 0 n (peq.L0.st d) (fun e s => some (e, s)) = (peq.L0.out (peq.L0.add d (peq.L0.F d))).eval := lrun_of (F := fun d => peq.L0.add d (peq.L0.F d)) (out := peq.L0.out) μ h
theorem peq.L0.step {R : Type} (s1_2 : (List Int)) (s2_2 : (List Int)) (t12 : Int) (t13 : Int) (kn : AS → Option R) (kx : Exit → AS → Option R) : lround Try.prog peq.G peq.an 0 Try.f53 0 (peq.L0.st (s1_2, s2_2, t12, t13)) kn kx =
  sel ((ilt t13 t12)) (
   sel (inb t13 (((List.length s1_2) : Nat) : Int)) (
   sel (inb t13 (((List.length s2_2) : Nat) : Int)) (
   sel ((ine (nth (.int .u64) s1_2 (Int.toNat t13)) (nth (.int .u64) s2_2 (Int.toNat t13)))) (
    kx (peq.L0.ex0 ()).1 (peq.L0.ex0 ()).2) (
    kn (peq.L0.st (s1_2, s2_2, t12, (iadd .i64 t13 (1 : Int)))))) none) none) (
   kx (peq.L0.ex1 ()).1 (peq.L0.ex1 ()).2) := by kernel_rfl
theorem peq.eq {R : Type} (s1 : (List Int)) (s2 : (List Int)) (k : GRes → Option R) : arun Try.prog peq.G peq.an 0 Try.f53 (peq.st (s1, s2)).1 (peq.st (s1, s2)).2 k =
  sel ((ine (((List.length s1) : Nat) : Int) (((List.length s2) : Nat) : Int))) (
   k (peq.out false)) (
   obind (peq.L0.call (s1, s2, (((List.length s1) : Nat) : Int), (0 : Int))) fun x1 =>
   sel (x1.isLeft) (
    obind (x1.getLeft?) fun a2 =>
    k (peq.out false)) (
    obind (x1.getRight?) fun b3 =>
    k (peq.out true))) := by kernel_rfl


theorem peq.L0.ok : ∀ d, peq.L0.Pre d → ∃ n, lrun Try.prog peq.G peq.an 0 Try.f53 0 n (peq.L0.st d) (fun e s => some (e, s)) = (peq.L0.out (peq.L0.add d (peq.L0.F d))).eval := by
  refine peq.L0.byRounds (fun (a, b, m, i) => a.length - i.toNat) ?_
  rintro ⟨a, b, m, i⟩ ⟨hl, hab, rfl, k, hk, rfl⟩
  have hl : a.length ≤ 1000000000 := hl
  have hab : a.length = b.length := hab
  have hk : k ≤ a.length := hk
  by_cases h : k < a.length
  · have h2 : k < b.length := by omega
    have n1 : nth (.int .u64) a k = a[k] := nth_lt (t := (.int .u64)) h
    have n2 : nth (.int .u64) b k = b[k] := nth_lt (t := (.int .u64)) h2
    have hd : (a.drop k = b.drop k) = (a[k] = b[k] ∧ a.drop (k + 1) = b.drop (k + 1)) := by rw [List.drop_eq_getElem_cons h, List.drop_eq_getElem_cons h2, List.cons.injEq]
    have step : ∀ {R : Type} (kn : AS → Option R) (kx : Exit → AS → Option R), lround Try.prog peq.G peq.an 0 Try.f53 0 (peq.L0.st (a, b, (a.length : Int), (k : Int))) kn kx = if a[k] = b[k] then kn (peq.L0.st (a, b, (a.length : Int), ((k + 1 : Nat) : Int))) else kx (peq.L0.ex0 ()).1 (peq.L0.ex0 ()).2 := by
      intro R kn kx
      rw [peq.L0.step, ilt_true (by omega), inb_true (by omega) (by omega), inb_true (by omega) (by omega), Int.toNat_natCast, n1, n2, N.aNL (by omega)]
      simp only [sel_true]
      by_cases hx : a[k] = b[k]
      · rw [ine_false hx, if_pos hx]; rfl
      · rw [ine_true hx, if_neg hx]; rfl
    by_cases hx : a[k] = b[k]
    · left
      refine ⟨(a, b, (a.length : Int), ((k + 1 : Nat) : Int)), ⟨hl, hab, rfl, k + 1, by omega, rfl⟩, by simp only [Int.toNat_natCast]; omega, ?_, fun kn kx => ?_⟩
      · simp only [peq.L0.add, peq.L0.F, Int.toNat_natCast, hd, hx, true_and]
      · rw [step, if_pos hx]
    · right
      refine ⟨peq.L0.ex0 (), ?_, fun kn kx => ?_⟩
      · simp only [peq.L0.add, peq.L0.F, Int.toNat_natCast, hd, hx, false_and, if_false]
        rfl
      · rw [step, if_neg hx]
  · right
    obtain rfl : k = a.length := by omega
    refine ⟨peq.L0.ex1 (), ?_, fun kn kx => ?_⟩
    · simp only [peq.L0.add, peq.L0.F, Int.toNat_natCast, List.drop_length]
      rw [hab, List.drop_length, if_pos rfl]
      rfl
    · rw [peq.L0.step, ilt_false (by omega), sel_false]
theorem peq.ok : ∀ d, peq.Pre d → arun Try.prog peq.G peq.an 0 Try.f53 (peq.st d).1 (peq.st d).2 some = some (peq.out (peq.add d (peq.F d))) := by
  rintro ⟨a, b⟩ hl
  have hl : a.length ≤ 1000000000 := hl
  rw [peq.eq]
  simp only [peq.add, peq.F]
  by_cases h : a.length = b.length
  · rw [ine_false (by omega), sel_false, peq.L0.run (d := (a, b, (a.length : Int), 0)) ⟨hl, h, rfl, 0, Nat.zero_le _, rfl⟩]
    simp only [obind_some, peq.L0.add, peq.L0.F, Int.toNat_zero, List.drop_zero]
    by_cases hx : a = b
    · rw [if_pos hx, dec_true hx]; rfl
    · rw [if_neg hx, dec_false hx]; rfl
  · rw [ine_true (by omega), dec_false (fun x => h (by rw [x]))]; rfl

theorem peq.inj : ∀ d d', peq.st d = peq.st d' → d = d' := fun (s1, s2) (s1', s2') hEq => by
  have e0 : s1 = s1' := d_inj (t := (.slice (.int .u64))) (congrArg (fun s : List AVal × List Ent => (s.1.getD 0 .undef)) hEq)
  have e1 : s2 = s2' := d_inj (t := (.slice (.int .u64))) (congrArg (fun s : List AVal × List Ent => (s.1.getD 1 .undef)) hEq)
  rw [e0, e1]
noncomputable def peq.E : Entry := Entry.of [some (.slice (.int .u64)), some (.slice (.int .u64))] peq.st peq.Pre (fun d => peq.add d (peq.F d)) peq.out
noncomputable def peq.call : peq.D → Option peq.X := fun d => peq.E.run (peq.st d).1 (peq.st d).2
theorem peq.run {d : peq.D} (h : peq.Pre d) : peq.call d = some (peq.add d (peq.F d)) := Entry.of_run peq.inj h
theorem peq.does : Does Try.prog 53 peq.E := Does.of (by kernel_rfl) (show Sound _ peq.G from Sound.nil _) (by kernel_rfl) (by kernel_rfl) (by kernel_rfl) (LOk.fn 1 (by kernel_rfl) (And.intro (LDo.of (by kernel_rfl) peq.L0.ok) trivial)) peq.ok

/-! ### corsned/lock.Same$1 -/
abbrev lsame1.D := ((List Int) × (Int × (Int × (Int × Unit)))) × ((List Int) × (Int × (Int × (Int × Unit))))
def lsame1.st : lsame1.D → List AVal × List Ent := fun (x, yv) => ([.d (.pair (.slice (.int .u64)) (.pair (.int .i64) (.pair (.int .i64) (.pair (.int .u64) .unit)))) x, .d (.pair (.slice (.int .u64)) (.pair (.int .i64) (.pair (.int .i64) (.pair (.int .u64) .unit)))) yv], [])
abbrev lsame1.Y := Bool
abbrev lsame1.X := Bool
def lsame1.out : lsame1.X → GRes := fun x => ⟨.d .bool x, [], []⟩
def lsame1.add : lsame1.D → lsame1.Y → lsame1.X := fun (x, yv) y => y


def lsame1.Pre : lsame1.D → Prop := fun (x, z) => x.1.length ≤ 1000000000
def lsame1.F : lsame1.D → lsame1.Y := fun (x, z) => decide (x = z)

noncomputable def lsame1.G : Gam := gcons 53 anyArgs peq.E (gnil)
noncomputable def lsame1.an : Ann := {
  objs := [],
  loops := fun r => { keep := [], sites := [], frz := [], data := [], owns := [] },
  outs := fun r b => { keep := [], sites := [], frz := [], data := [], owns := [] },
  sums := fun r => none,
  owns := [],
  trim := [],
  res := [] }
theorem lsame1.eq {R : Type} (x : ((List Int) × (Int × (Int × (Int × Unit))))) (yv : ((List Int) × (Int × (Int × (Int × Unit))))) (k : GRes → Option R) : arun Try.prog lsame1.G lsame1.an 0 Try.f52 (lsame1.st (x, yv)).1 (lsame1.st (x, yv)).2 k =
  obind (peq.call (x.1, yv.1)) fun x1 =>
  sel (x1) (
   sel ((ieq x.2.1 yv.2.1)) (
    sel ((ieq x.2.2.1 yv.2.2.1)) (
     k (lsame1.out (ieq x.2.2.2.1 yv.2.2.2.1))) (
     k (lsame1.out false))) (
    k (lsame1.out false))) (
   k (lsame1.out false)) := by kernel_rfl


theorem lsame1.ok : ∀ d, lsame1.Pre d → arun Try.prog lsame1.G lsame1.an 0 Try.f52 (lsame1.st d).1 (lsame1.st d).2 some = some (lsame1.out (lsame1.add d (lsame1.F d))) := by
  rintro ⟨⟨k1, a1, d1, s1, u1⟩, ⟨k2, a2, d2, s2, u2⟩⟩ h
  have h : k1.length ≤ 1000000000 := h
  rw [lsame1.eq, peq.run (d := (k1, k2)) h]
  simp only [obind_some, peq.add, peq.F, lsame1.add, lsame1.F]
  by_cases e1 : k1 = k2
  · by_cases e2 : a1 = a2
    · by_cases e3 : d1 = d2
      · by_cases e4 : s1 = s2
        · rw [dec_true e1, ieq_true e2, ieq_true e3, ieq_true e4, dec_true (by rw [e1, e2, e3, e4])]; rfl
        · rw [dec_true e1, ieq_true e2, ieq_true e3, ieq_false e4, dec_false (by rintro ⟨⟩; exact e4 rfl)]; rfl
      · rw [dec_true e1, ieq_true e2, ieq_false e3, dec_false (by rintro ⟨⟩; exact e3 rfl)]; rfl
    · rw [dec_true e1, ieq_false e2, dec_false (by rintro ⟨⟩; exact e2 rfl)]; rfl
  · rw [dec_false e1, dec_false (by rintro ⟨⟩; exact e1 rfl)]; rfl

theorem lsame1.inj : ∀ d d', lsame1.st d = lsame1.st d' → d = d' := fun (x, yv) (x', yv') hEq => by
  have e0 : x = x' := d_inj (t := (.pair (.slice (.int .u64)) (.pair (.int .i64) (.pair (.int .i64) (.pair (.int .u64) .unit))))) (congrArg (fun s : List AVal × List Ent => (s.1.getD 0 .undef)) hEq)
  have e1 : yv = yv' := d_inj (t := (.pair (.slice (.int .u64)) (.pair (.int .i64) (.pair (.int .i64) (.pair (.int .u64) .unit))))) (congrArg (fun s : List AVal × List Ent => (s.1.getD 1 .undef)) hEq)
  rw [e0, e1]
noncomputable def lsame1.E : Entry := Entry.of [some (.pair (.slice (.int .u64)) (.pair (.int .i64) (.pair (.int .i64) (.pair (.int .u64) .unit)))), some (.pair (.slice (.int .u64)) (.pair (.int .i64) (.pair (.int .i64) (.pair (.int .u64) .unit))))] lsame1.st lsame1.Pre (fun d => lsame1.add d (lsame1.F d)) lsame1.out
noncomputable def lsame1.call : lsame1.D → Option lsame1.X := fun d => lsame1.E.run (lsame1.st d).1 (lsame1.st d).2
theorem lsame1.run {d : lsame1.D} (h : lsame1.Pre d) : lsame1.call d = some (lsame1.add d (lsame1.F d)) := Entry.of_run lsame1.inj h
theorem lsame1.does : Does Try.prog 52 lsame1.E := Does.of (by kernel_rfl) (show Sound _ lsame1.G from Sound.cons peq.does (Sound.nil _)) (by kernel_rfl) (by kernel_rfl) (by kernel_rfl) (LOk.fn 0 (by kernel_rfl) trivial) lsame1.ok


def ShortK (l : Lk) : Prop := l.1.length ≤ 1000000000 ∧ ∀ b ∈ l.1, b.1.length ≤ 1000000000

/-! ### slices.EqualFunc[[]corsned/api.Branch,[]corsned/api.Branch,corsned/api.Branch,corsned/api.Branch] -/
abbrev breq.L0.D := (List ((List Int) × (Int × (Int × (Int × Unit))))) × (List ((List Int) × (Int × (Int × (Int × Unit))))) × Int × Int
def breq.L0.st : breq.L0.D → AS := fun (s2_2, t15, t16, t17) => ⟨([.undef, .d (.slice (.pair (.slice (.int .u64)) (.pair (.int .i64) (.pair (.int .i64) (.pair (.int .u64) .unit))))) s2_2, .fn 52 (.nil)] ++ undN 12 ([.d (.slice (.pair (.slice (.int .u64)) (.pair (.int .i64) (.pair (.int .i64) (.pair (.int .u64) .unit))))) t15, .d (.int .i64) t16, .d (.int .i64) t17] ++ undN 14 [])), [], (List.replicate 32 [])⟩
abbrev breq.L0.Y0 := Unit
abbrev breq.L0.X0 := Unit
def breq.L0.ex0 : breq.L0.X0 → Exit × AS := fun x => (.ret, ⟨(undN 6 ([.d .bool false] ++ undN 25 [])), [], (List.replicate 32 [])⟩)
abbrev breq.L0.Y1 := Unit
abbrev breq.L0.X1 := Unit
def breq.L0.ex1 : breq.L0.X1 → Exit × AS := fun x => (.exit 0, ⟨(undN 32 []), [], (List.replicate 32 [])⟩)
abbrev breq.L0.X := (breq.L0.X0) ⊕ (breq.L0.X1)
abbrev breq.L0.Y := (breq.L0.Y0) ⊕ (breq.L0.Y1)
def breq.L0.out : breq.L0.X → Out (Exit × AS) := fun x => .br x.isLeft (.get x.getLeft? fun a => .ok (breq.L0.ex0 a)) (.get x.getRight? fun b => .ok (breq.L0.ex1 b))
def breq.L0.add : breq.L0.D → breq.L0.Y → breq.L0.X := fun (s2_2, t15, t16, t17) y => match y with | .inl y => .inl y | .inr z => .inr (z)
abbrev breq.D := (List ((List Int) × (Int × (Int × (Int × Unit))))) × (List ((List Int) × (Int × (Int × (Int × Unit)))))
def breq.st : breq.D → List AVal × List Ent := fun (s1, s2) => ([.d (.slice (.pair (.slice (.int .u64)) (.pair (.int .i64) (.pair (.int .i64) (.pair (.int .u64) .unit))))) s1, .d (.slice (.pair (.slice (.int .u64)) (.pair (.int .i64) (.pair (.int .i64) (.pair (.int .u64) .unit))))) s2, .fn 52 (.nil)], [])
abbrev breq.Y := Bool
abbrev breq.X := Bool
def breq.out : breq.X → GRes := fun x => ⟨.d .bool x, [], []⟩
def breq.add : breq.D → breq.Y → breq.X := fun (s1, s2) y => y


def breq.L0.Pre : breq.L0.D → Prop := fun (b, a, m, i) => (a.length ≤ 1000000000 ∧ ∀ x ∈ a, x.1.length ≤ 1000000000) ∧ a.length = b.length ∧ m = a.length ∧ ∃ k : Nat, k ≤ a.length ∧ i = k
def breq.L0.F : breq.L0.D → breq.L0.Y := fun (b, a, m, i) => if a.drop i.toNat = b.drop i.toNat then .inr () else .inl ()
def breq.Pre : breq.D → Prop := fun (a, b) => a.length ≤ 1000000000 ∧ ∀ x ∈ a, x.1.length ≤ 1000000000
def breq.F : breq.D → breq.Y := fun (a, b) => decide (a = b)

noncomputable def breq.G : Gam := gcons 52 anyArgs lsame1.E (gnil)
noncomputable def breq.L0.E : LEntry := LEntry.of breq.L0.st breq.L0.Pre (fun d => breq.L0.add d (breq.L0.F d)) breq.L0.out
noncomputable def breq.L0.call : breq.L0.D → Option breq.L0.X := fun d => breq.L0.E.run (breq.L0.st d)
noncomputable def breq.an : Ann := {
  objs := [],
  loops := fun r => bif Nat.beq r 4 then { keep := [1, 2, 15, 16, 17], sites := [], frz := [], data := [], owns := [] } else { keep := [], sites := [], frz := [], data := [], owns := [] },
  outs := fun r b => bif Nat.beq r 4 then (bif b then { keep := [6], sites := [], frz := [], data := [], owns := [] } else { keep := [], sites := [], frz := [], data := [], owns := [] }) else { keep := [], sites := [], frz := [], data := [], owns := [] },
  sums := fun r => bif Nat.beq r 4 then some breq.L0.E else none,
  owns := [],
  trim := [],
  res := [] }
theorem breq.L0.inj : ∀ d d', breq.L0.st d = breq.L0.st d' → d = d' := fun (s2_2, t15, t16, t17) (s2_2', t15', t16', t17') hEq => by
  have e0 : s2_2 = s2_2' := d_inj (t := (.slice (.pair (.slice (.int .u64)) (.pair (.int .i64) (.pair (.int .i64) (.pair (.int .u64) .unit)))))) (congrArg (fun s : AS => (s.slot 1)) hEq)
  have e1 : t15 = t15' := d_inj (t := (.slice (.pair (.slice (.int .u64)) (.pair (.int .i64) (.pair (.int .i64) (.pair (.int .u64) .unit)))))) (congrArg (fun s : AS => (s.slot 15)) hEq)
  have e2 : t16 = t16' := d_inj (t := (.int .i64)) (congrArg (fun s : AS => (s.slot 16)) hEq)
  have e3 : t17 = t17' := d_inj (t := (.int .i64)) (congrArg (fun s : AS => (s.slot 17)) hEq)
  rw [e0, e1, e2, e3]
theorem breq.L0.run {d : breq.L0.D} (h : breq.L0.Pre d) : breq.L0.call d = some (breq.L0.add d (breq.L0.F d)) := LEntry.of_run breq.L0.inj h
theorem breq.L0.byRounds (μ : breq.L0.D → Nat) (h : ∀ d, breq.L0.Pre d → (∃ d', breq.L0.Pre d' ∧ μ d' < μ d ∧ breq.L0.add d' (breq.L0.F d') = breq.L0.add d (breq.L0.F d) ∧ ∀ {R : Type} (kn : AS → Option R) (kx : Exit → AS → Option R), lround Try.prog breq.G breq.an 0 Try.f51 0 (breq.L0.st d) kn kx = kn (breq.L0.st d')) ∨ (∃ r, (breq.L0.out (breq.L0.add d (breq.L0.F d))).eval = some r ∧ ∀ {R : Type} (kn : AS → Option R) (kx : Exit → AS → Option R), lround Try.prog breq.G breq.an 0 Try.f51 0 (breq.L0.st d) kn kx = kx r.1 r.2)) : ∀ d, breq.L0.Pre d → ∃ n, lrun Try.prog breq.G breq.an 0 Try.f51 0 n (breq.L0.st d) (fun e s => some (e, s)) = (breq.L0.out (breq.L0.add d (breq.L0.F d))).eval := lrun_of (F := fun d => breq.L0.add d (breq.L0.F d)) (out := breq.L0.out) μ h
theorem breq.L0.step {R : Type} (s2_2 : (List ((List Int) × (Int × (Int × (Int × Unit)))))) (t15 : (List ((List Int) × (Int × (Int × (Int × Unit)))))) (t16 : Int) (t17 : Int) (kn : AS → Option R) (kx : Exit → AS → Option R) : lround Try.prog breq.G breq.an 0 Try.f51 0 (breq.L0.st (s2_2, t15, t16, t17)) kn kx =
  sel ((ilt t17 t16)) (
   sel (inb t17 (((List.length t15) : Nat) : Int)) (
   sel (inb t17 (((List.length s2_2) : Nat) : Int)) (
   obind (lsame1.call ((nth (.pair (.slice (.int .u64)) (.pair (.int .i64) (.pair (.int .i64) (.pair (.int .u64) .unit)))) t15 (Int.toNat t17)), (nth (.pair (.slice (.int .u64)) (.pair (.int .i64) (.pair (.int .i64) (.pair (.int .u64) .unit)))) s2_2 (Int.toNat t17)))) fun x1 =>
   sel ((!x1)) (
    kx (breq.L0.ex0 ()).1 (breq.L0.ex0 ()).2) (
    kn (breq.L0.st (s2_2, t15, t16, (iadd .i64 t17 (1 : Int)))))) none) none) (
   kx (breq.L0.ex1 ()).1 (breq.L0.ex1 ()).2) := by kernel_rfl
theorem breq.eq {R : Type} (s1 : (List ((List Int) × (Int × (Int × (Int × Unit)))))) (s2 : (List ((List Int) × (Int × (Int × (Int × Unit)))))) (k : GRes → Option R) : arun Try.prog breq.G breq.an 0 Try.f51 (breq.st (s1, s2)).1 (breq.st (s1, s2)).2 k =
  sel ((ine (((List.length s1) : Nat) : Int) (((List.length s2) : Nat) : Int))) (
   k (breq.out false)) (
   obind (breq.L0.call (s2, s1, (((List.length s1) : Nat) : Int), (0 : Int))) fun x2 =>
   sel (x2.isLeft) (
    obind (x2.getLeft?) fun a3 =>
    k (breq.out false)) (
    obind (x2.getRight?) fun b4 =>
    k (breq.out true))) := by kernel_rfl


theorem breq.L0.ok : ∀ d, breq.L0.Pre d → ∃ n, lrun Try.prog breq.G breq.an 0 Try.f51 0 n (breq.L0.st d) (fun e s => some (e, s)) = (breq.L0.out (breq.L0.add d (breq.L0.F d))).eval := by
  refine breq.L0.byRounds (fun (b, a, m, i) => a.length - i.toNat) ?_
  rintro ⟨b, a, m, i⟩ ⟨⟨hl, he⟩, hab, rfl, k, hk, rfl⟩
  have hl : a.length ≤ 1000000000 := hl
  have hab : a.length = b.length := hab
  have hk : k ≤ a.length := hk
  by_cases h : k < a.length
  · have h2 : k < b.length := by omega
    have n1 : nth (.pair (.slice (.int .u64)) (.pair (.int .i64) (.pair (.int .i64) (.pair (.int .u64) .unit)))) a k = a[k] := nth_lt (t := (.pair (.slice (.int .u64)) (.pair (.int .i64) (.pair (.int .i64) (.pair (.int .u64) .unit))))) h
    have n2 : nth (.pair (.slice (.int .u64)) (.pair (.int .i64) (.pair (.int .i64) (.pair (.int .u64) .unit)))) b k = b[k] := nth_lt (t := (.pair (.slice (.int .u64)) (.pair (.int .i64) (.pair (.int .i64) (.pair (.int .u64) .unit))))) h2
    have hd : (a.drop k = b.drop k) = (a[k] = b[k] ∧ a.drop (k + 1) = b.drop (k + 1)) := by rw [List.drop_eq_getElem_cons h, List.drop_eq_getElem_cons h2, List.cons.injEq]
    have step : ∀ {R : Type} (kn : AS → Option R) (kx : Exit → AS → Option R), lround Try.prog breq.G breq.an 0 Try.f51 0 (breq.L0.st (b, a, (a.length : Int), (k : Int))) kn kx = if a[k] = b[k] then kn (breq.L0.st (b, a, (a.length : Int), ((k + 1 : Nat) : Int))) else kx (breq.L0.ex0 ()).1 (breq.L0.ex0 ()).2 := by
      intro R kn kx
      rw [breq.L0.step, ilt_true (by omega), inb_true (by omega) (by omega), inb_true (by omega) (by omega), Int.toNat_natCast, n1, n2, N.aNL (by omega), lsame1.run (d := (a[k], b[k])) (he _ (List.getElem_mem h))]
      simp only [sel_true, obind_some, lsame1.add, lsame1.F]
      by_cases hx : a[k] = b[k]
      · rw [dec_true hx, if_pos hx]; rfl
      · rw [dec_false hx, if_neg hx]; rfl
    by_cases hx : a[k] = b[k]
    · left
      refine ⟨(b, a, (a.length : Int), ((k + 1 : Nat) : Int)), ⟨⟨hl, he⟩, hab, rfl, k + 1, by omega, rfl⟩, by simp only [Int.toNat_natCast]; omega, ?_, fun kn kx => ?_⟩
      · simp only [breq.L0.add, breq.L0.F, Int.toNat_natCast, hd, hx, true_and]
      · rw [step, if_pos hx]
    · right
      refine ⟨breq.L0.ex0 (), ?_, fun kn kx => ?_⟩
      · simp only [breq.L0.add, breq.L0.F, Int.toNat_natCast, hd, hx, false_and, if_false]
        rfl
      · rw [step, if_neg hx]
  · right
    obtain rfl : k = a.length := by omega
    refine ⟨breq.L0.ex1 (), ?_, fun kn kx => ?_⟩
    · simp only [breq.L0.add, breq.L0.F, Int.toNat_natCast, List.drop_length]
      rw [hab, List.drop_length, if_pos rfl]
      rfl
    · rw [breq.L0.step, ilt_false (by omega), sel_false]
theorem breq.ok : ∀ d, breq.Pre d → arun Try.prog breq.G breq.an 0 Try.f51 (breq.st d).1 (breq.st d).2 some = some (breq.out (breq.add d (breq.F d))) := by
  rintro ⟨a, b⟩ hl
  have hl1 : a.length ≤ 1000000000 := hl.1
  rw [breq.eq]
  simp only [breq.add, breq.F]
  by_cases h : a.length = b.length
  · rw [ine_false (by omega), sel_false, breq.L0.run (d := (b, a, (a.length : Int), 0)) ⟨hl, h, rfl, 0, Nat.zero_le _, rfl⟩]
    simp only [obind_some, breq.L0.add, breq.L0.F, Int.toNat_zero, List.drop_zero]
    by_cases hx : a = b
    · rw [if_pos hx, dec_true hx]; rfl
    · rw [if_neg hx, dec_false hx]; rfl
  · rw [ine_true (by omega), dec_false (fun x => h (by rw [x]))]; rfl

theorem breq.inj : ∀ d d', breq.st d = breq.st d' → d = d' := fun (s1, s2) (s1', s2') hEq => by
  have e0 : s1 = s1' := d_inj (t := (.slice (.pair (.slice (.int .u64)) (.pair (.int .i64) (.pair (.int .i64) (.pair (.int .u64) .unit)))))) (congrArg (fun s : List AVal × List Ent => (s.1.getD 0 .undef)) hEq)
  have e1 : s2 = s2' := d_inj (t := (.slice (.pair (.slice (.int .u64)) (.pair (.int .i64) (.pair (.int .i64) (.pair (.int .u64) .unit)))))) (congrArg (fun s : List AVal × List Ent => (s.1.getD 1 .undef)) hEq)
  rw [e0, e1]
noncomputable def breq.E : Entry := Entry.of [some (.slice (.pair (.slice (.int .u64)) (.pair (.int .i64) (.pair (.int .i64) (.pair (.int .u64) .unit))))), some (.slice (.pair (.slice (.int .u64)) (.pair (.int .i64) (.pair (.int .i64) (.pair (.int .u64) .unit))))), none] breq.st breq.Pre (fun d => breq.add d (breq.F d)) breq.out
noncomputable def breq.call : breq.D → Option breq.X := fun d => breq.E.run (breq.st d).1 (breq.st d).2
theorem breq.run {d : breq.D} (h : breq.Pre d) : breq.call d = some (breq.add d (breq.F d)) := Entry.of_run breq.inj h
theorem breq.does : Does Try.prog 51 breq.E := Does.of (by kernel_rfl) (show Sound _ breq.G from Sound.cons lsame1.does (Sound.nil _)) (by kernel_rfl) (by kernel_rfl) (by kernel_rfl) (LOk.fn 1 (by kernel_rfl) (And.intro (LDo.of (by kernel_rfl) breq.L0.ok) trivial)) breq.ok

/-! ### corsned/lock.Same -/
abbrev lsame.D := ((List ((List Int) × (Int × (Int × (Int × Unit))))) × Unit) × ((List ((List Int) × (Int × (Int × (Int × Unit))))) × Unit)
def lsame.st : lsame.D → List AVal × List Ent := fun (a, b) => ([.d (.pair (.slice (.pair (.slice (.int .u64)) (.pair (.int .i64) (.pair (.int .i64) (.pair (.int .u64) .unit))))) .unit) a, .d (.pair (.slice (.pair (.slice (.int .u64)) (.pair (.int .i64) (.pair (.int .i64) (.pair (.int .u64) .unit))))) .unit) b], [])
abbrev lsame.Y := Bool
abbrev lsame.X := Bool
def lsame.out : lsame.X → GRes := fun x => ⟨.d .bool x, [], []⟩
def lsame.add : lsame.D → lsame.Y → lsame.X := fun (a, b) y => y


def lsame.Pre : lsame.D → Prop := fun (a, b) => ShortK a
def lsame.F : lsame.D → lsame.Y := fun (a, b) => decide (a.1 = b.1)

noncomputable def lsame.G : Gam := gcons 51 anyArgs breq.E (gnil)
noncomputable def lsame.an : Ann := {
  objs := [],
  loops := fun r => { keep := [], sites := [], frz := [], data := [], owns := [] },
  outs := fun r b => { keep := [], sites := [], frz := [], data := [], owns := [] },
  sums := fun r => none,
  owns := [],
  trim := [],
  res := [] }
theorem lsame.eq {R : Type} (a : ((List ((List Int) × (Int × (Int × (Int × Unit))))) × Unit)) (b : ((List ((List Int) × (Int × (Int × (Int × Unit))))) × Unit)) (k : GRes → Option R) : arun Try.prog lsame.G lsame.an 0 Try.f30 (lsame.st (a, b)).1 (lsame.st (a, b)).2 k =
  obind (breq.call (a.1, b.1)) fun x1 =>
  k (lsame.out x1) := by kernel_rfl


theorem lsame.ok : ∀ d, lsame.Pre d → arun Try.prog lsame.G lsame.an 0 Try.f30 (lsame.st d).1 (lsame.st d).2 some = some (lsame.out (lsame.add d (lsame.F d))) := by
  rintro ⟨a, b⟩ h
  rw [lsame.eq, breq.run (d := (a.1, b.1)) h]
  rfl

theorem lsame.inj : ∀ d d', lsame.st d = lsame.st d' → d = d' := fun (a, b) (a', b') hEq => by
  have e0 : a = a' := d_inj (t := (.pair (.slice (.pair (.slice (.int .u64)) (.pair (.int .i64) (.pair (.int .i64) (.pair (.int .u64) .unit))))) .unit)) (congrArg (fun s : List AVal × List Ent => (s.1.getD 0 .undef)) hEq)
  have e1 : b = b' := d_inj (t := (.pair (.slice (.pair (.slice (.int .u64)) (.pair (.int .i64) (.pair (.int .i64) (.pair (.int .u64) .unit))))) .unit)) (congrArg (fun s : List AVal × List Ent => (s.1.getD 1 .undef)) hEq)
  rw [e0, e1]
noncomputable def lsame.E : Entry := Entry.of [some (.pair (.slice (.pair (.slice (.int .u64)) (.pair (.int .i64) (.pair (.int .i64) (.pair (.int .u64) .unit))))) .unit), some (.pair (.slice (.pair (.slice (.int .u64)) (.pair (.int .i64) (.pair (.int .i64) (.pair (.int .u64) .unit))))) .unit)] lsame.st lsame.Pre (fun d => lsame.add d (lsame.F d)) lsame.out
noncomputable def lsame.call : lsame.D → Option lsame.X := fun d => lsame.E.run (lsame.st d).1 (lsame.st d).2
theorem lsame.run {d : lsame.D} (h : lsame.Pre d) : lsame.call d = some (lsame.add d (lsame.F d)) := Entry.of_run lsame.inj h
theorem lsame.does : Does Try.prog 30 lsame.E := Does.of (by kernel_rfl) (show Sound _ lsame.G from Sound.cons breq.does (Sound.nil _)) (by kernel_rfl) (by kernel_rfl) (by kernel_rfl) (LOk.fn 0 (by kernel_rfl) trivial) lsame.ok

end Go.Ab
