/-
  Made by a program of mine (wip/gen), and by hand.
-/
import Derived.Test.YtglpcfdjdabdnaaLk1
namespace Go.Ab
open Go.Proofs
set_option maxRecDepth 100000
set_option linter.unusedVariables false
set_option linter.unusedSimpArgs false

/-! ### corsned/lock.Right -/
abbrev lright.L0.D := ((List ((List Int) × (Int × (Int × (Int × Unit))))) × Unit) × (List ((List Int) × (Int × (Int × (Int × Unit))))) × Int × Int
def lright.L0.st : lright.L0.D → AS := fun (l_2, t7, t8, t9) => ⟨([.undef, .rptr (.pair (.slice (.pair (.slice (.int .u64)) (.pair (.int .i64) (.pair (.int .i64) (.pair (.int .u64) .unit))))) .unit) l_2, .undef, .fn 38 (.nil), .undef, .undef, .undef, .d (.slice (.pair (.slice (.int .u64)) (.pair (.int .i64) (.pair (.int .i64) (.pair (.int .u64) .unit))))) t7, .d (.int .i64) t8, .d (.int .i64) t9] ++ undN 47 []), [], (List.replicate 57 [])⟩
abbrev lright.L0.Y0 := Unit
abbrev lright.L0.X0 := Unit
def lright.L0.ex0 : lright.L0.X0 → Exit × AS := fun x => (.ret, ⟨([.undef, .undef, .d .bool false] ++ undN 54 []), [], (List.replicate 57 [])⟩)
abbrev lright.L0.Y1 := Unit
abbrev lright.L0.X1 := ((List ((List Int) × (Int × (Int × (Int × Unit))))) × Unit)
def lright.L0.ex1 : lright.L0.X1 → Exit × AS := fun x => (.exit 0, ⟨([.undef, .rptr (.pair (.slice (.pair (.slice (.int .u64)) (.pair (.int .i64) (.pair (.int .i64) (.pair (.int .u64) .unit))))) .unit) x] ++ undN 55 []), [], (List.replicate 57 [])⟩)
abbrev lright.L0.X := (lright.L0.X0) ⊕ (lright.L0.X1)
abbrev lright.L0.Y := (lright.L0.Y0) ⊕ (lright.L0.Y1)
def lright.L0.out : lright.L0.X → Out (Exit × AS) := fun x => .br x.isLeft (.get x.getLeft? fun a => .ok (lright.L0.ex0 a)) (.get x.getRight? fun b => .ok (lright.L0.ex1 b))
def lright.L0.add : lright.L0.D → lright.L0.Y → lright.L0.X := fun (l_2, t7, t8, t9) y => match y with | .inl y => .inl y | .inr z => .inr (l_2)
abbrev lright.D := ((List ((List Int) × (Int × (Int × (Int × Unit))))) × Unit)
def lright.st : lright.D → List AVal × List Ent := fun l => ([.d (.pair (.slice (.pair (.slice (.int .u64)) (.pair (.int .i64) (.pair (.int .i64) (.pair (.int .u64) .unit))))) .unit) l], [])
abbrev lright.Y := Bool
abbrev lright.X := Bool
def lright.out : lright.X → GRes := fun x => ⟨.d .bool x, [], []⟩
def lright.add : lright.D → lright.Y → lright.X := fun l y => y


def lright.L0.Pre : lright.L0.D → Prop := fun (l, bs, n, i) => (∀ b ∈ bs, BrU b) ∧ bs.length ≤ 1000000000 ∧ n = bs.length ∧ ∃ k : Nat, k ≤ bs.length ∧ i = k
def lright.L0.F : lright.L0.D → lright.L0.Y := fun (l, bs, n, i) => if (bs.drop i.toNat).all brOk then .inr () else .inl ()
def lright.Pre : lright.D → Prop := fun l => LkU l ∧ l.1.length ≤ 1000000000
def lright.F : lright.D → lright.Y := fun l => lkOk l

noncomputable def lright.G : Gam := gcons 39 anyArgs pcontains.E (gcons 40 anyArgs lheight.E (gcons 38 anyArgs lbad.E (gnil)))
noncomputable def lright.L0.E : LEntry := LEntry.of lright.L0.st lright.L0.Pre (fun d => lright.L0.add d (lright.L0.F d)) lright.L0.out
noncomputable def lright.L0.call : lright.L0.D → Option lright.L0.X := fun d => lright.L0.E.run (lright.L0.st d)
noncomputable def lright.an : Ann := {
  objs := [],
  loops := fun r => bif Nat.beq r 3 then { keep := [1, 3, 7, 8, 9], sites := [], frz := [], data := [], owns := [] } else { keep := [], sites := [], frz := [], data := [], owns := [] },
  outs := fun r b => bif Nat.beq r 3 then (bif b then { keep := [2], sites := [], frz := [], data := [], owns := [] } else { keep := [1], sites := [], frz := [], data := [], owns := [] }) else { keep := [], sites := [], frz := [], data := [], owns := [] },
  sums := fun r => bif Nat.beq r 3 then some lright.L0.E else none,
  owns := [],
  trim := [],
  res := [] }
theorem lright.L0.inj : ∀ d d', lright.L0.st d = lright.L0.st d' → d = d' := fun (l_2, t7, t8, t9) (l_2', t7', t8', t9') hEq => by
  have e0 : l_2 = l_2' := rptr_inj (t := (.pair (.slice (.pair (.slice (.int .u64)) (.pair (.int .i64) (.pair (.int .i64) (.pair (.int .u64) .unit))))) .unit)) (congrArg (fun s : AS => (s.slot 1)) hEq)
  have e1 : t7 = t7' := d_inj (t := (.slice (.pair (.slice (.int .u64)) (.pair (.int .i64) (.pair (.int .i64) (.pair (.int .u64) .unit)))))) (congrArg (fun s : AS => (s.slot 7)) hEq)
  have e2 : t8 = t8' := d_inj (t := (.int .i64)) (congrArg (fun s : AS => (s.slot 8)) hEq)
  have e3 : t9 = t9' := d_inj (t := (.int .i64)) (congrArg (fun s : AS => (s.slot 9)) hEq)
  rw [e0, e1, e2, e3]
theorem lright.L0.run {d : lright.L0.D} (h : lright.L0.Pre d) : lright.L0.call d = some (lright.L0.add d (lright.L0.F d)) := LEntry.of_run lright.L0.inj h
theorem lright.L0.byRounds (μ : lright.L0.D → Nat) (h : ∀ d, lright.L0.Pre d → (∃ d', lright.L0.Pre d' ∧ μ d' < μ d ∧ lright.L0.add d' (lright.L0.F d') = lright.L0.add d (lright.L0.F d) ∧ ∀ {R : Type} (kn : AS → Option R) (kx : Exit → AS → Option R), lround Try.prog lright.G lright.an 0 Try.f14 0 (lright.L0.st d) kn kx = kn (lright.L0.st d')) ∨ (∃ r, (lright.L0.out (lright.L0.add d (lright.L0.F d))).eval = some r ∧ ∀ {R : Type} (kn : AS → Option R) (kx : Exit → AS → Option R), lround Try.prog lright.G lright.an 0 Try.f14 0 (lright.L0.st d) kn kx = kx r.1 r.2)) : ∀ d, lright.L0.Pre d → ∃ n, lrun Try.prog lright.G lright.an 0 Try.f14 0 n (lright.L0.st d) (fun e s => some (e, s)) = (lright.L0.out (lright.L0.add d (lright.L0.F d))).eval := lrun_of (F := fun d => lright.L0.add d (lright.L0.F d)) (out := lright.L0.out) μ h
theorem lright.L0.step {R : Type} (l_2 : ((List ((List Int) × (Int × (Int × (Int × Unit))))) × Unit)) (t7 : (List ((List Int) × (Int × (Int × (Int × Unit)))))) (t8 : Int) (t9 : Int) (kn : AS → Option R) (kx : Exit → AS → Option R) : lround Try.prog lright.G lright.an 0 Try.f14 0 (lright.L0.st (l_2, t7, t8, t9)) kn kx =
  sel ((ilt t9 t8)) (
   sel (inb t9 (((List.length t7) : Nat) : Int)) (
   sel ((igt (((List.length (nth (.pair (.slice (.int .u64)) (.pair (.int .i64) (.pair (.int .i64) (.pair (.int .u64) .unit)))) t7 (Int.toNat t9)).1) : Nat) : Int) (12 : Int))) (
    kx (lright.L0.ex0 ()).1 (lright.L0.ex0 ()).2) (
    obind (pcontains.call (nth (.pair (.slice (.int .u64)) (.pair (.int .i64) (.pair (.int .i64) (.pair (.int .u64) .unit)))) t7 (Int.toNat t9)).1) fun x1 =>
    sel (x1) (
     kx (lright.L0.ex0 ()).1 (lright.L0.ex0 ()).2) (
     obind (lheight.call (nth (.pair (.slice (.int .u64)) (.pair (.int .i64) (.pair (.int .i64) (.pair (.int .u64) .unit)))) t7 (Int.toNat t9)).2.1) fun x2 =>
     sel ((!x2)) (
      kx (lright.L0.ex0 ()).1 (lright.L0.ex0 ()).2) (
      obind (lheight.call (nth (.pair (.slice (.int .u64)) (.pair (.int .i64) (.pair (.int .i64) (.pair (.int .u64) .unit)))) t7 (Int.toNat t9)).2.2.1) fun x3 =>
      sel ((!x3)) (
       kx (lright.L0.ex0 ()).1 (lright.L0.ex0 ()).2) (
       sel ((ine (nth (.pair (.slice (.int .u64)) (.pair (.int .i64) (.pair (.int .i64) (.pair (.int .u64) .unit)))) t7 (Int.toNat t9)).2.2.2.1 (0 : Int))) (
        obind (lbad.call (nth (.pair (.slice (.int .u64)) (.pair (.int .i64) (.pair (.int .i64) (.pair (.int .u64) .unit)))) t7 (Int.toNat t9)).2.2.2.1) fun x4 =>
        sel (x4) (
         kx (lright.L0.ex0 ()).1 (lright.L0.ex0 ()).2) (
         kn (lright.L0.st (l_2, t7, t8, (iadd .i64 t9 (1 : Int)))))) (
        kn (lright.L0.st (l_2, t7, t8, (iadd .i64 t9 (1 : Int)))))))))) none) (
   kx (lright.L0.ex1 l_2).1 (lright.L0.ex1 l_2).2) := by kernel_rfl
theorem lright.eq {R : Type} (l : ((List ((List Int) × (Int × (Int × (Int × Unit))))) × Unit)) (k : GRes → Option R) : arun Try.prog lright.G lright.an 0 Try.f14 (lright.st l).1 (lright.st l).2 k =
  obind (lright.L0.call (l, l.1, (((List.length l.1) : Nat) : Int), (0 : Int))) fun x5 =>
  sel (x5.isLeft) (
   obind (x5.getLeft?) fun a6 =>
   k (lright.out false)) (
   obind (x5.getRight?) fun b7 =>
   sel ((igt (((List.length b7.1) : Nat) : Int) (0 : Int))) (
    k (lright.out (ile (((List.length b7.1) : Nat) : Int) (4 : Int)))) (
    k (lright.out false))) := by kernel_rfl


theorem lright.L0.ok : ∀ d, lright.L0.Pre d → ∃ n, lrun Try.prog lright.G lright.an 0 Try.f14 0 n (lright.L0.st d) (fun e s => some (e, s)) = (lright.L0.out (lright.L0.add d (lright.L0.F d))).eval := by
  refine lright.L0.byRounds (fun (l, bs, n, i) => bs.length - i.toNat) ?_
  rintro ⟨l, bs, n, i⟩ ⟨hl, hb, rfl, k, hk, rfl⟩
  have hb : bs.length ≤ 1000000000 := hb
  have hk : k ≤ bs.length := hk
  by_cases h : k < bs.length
  · have hx : BrU bs[k] := hl _ (List.getElem_mem h)
    have n1 : nth (.pair (.slice (.int .u64)) (.pair (.int .i64) (.pair (.int .i64) (.pair (.int .u64) .unit)))) bs k = bs[k] := nth_lt (t := (.pair (.slice (.int .u64)) (.pair (.int .i64) (.pair (.int .i64) (.pair (.int .u64) .unit))))) h
    have hd : (bs.drop k).all brOk = (brOk bs[k] && (bs.drop (k + 1)).all brOk) := by rw [List.drop_eq_getElem_cons h, List.all_cons]
    have step : ∀ {R : Type} (kn : AS → Option R) (kx : Exit → AS → Option R), lround Try.prog lright.G lright.an 0 Try.f14 0 (lright.L0.st (l, bs, (bs.length : Int), (k : Int))) kn kx = sel (brOk bs[k]) (kn (lright.L0.st (l, bs, (bs.length : Int), ((k + 1 : Nat) : Int)))) (kx (lright.L0.ex0 ()).1 (lright.L0.ex0 ()).2) := by
      intro R kn kx
      rw [lright.L0.step, ilt_true (by omega), inb_true (by omega) (by omega), Int.toNat_natCast, n1, N.aNL (by omega)]
      obtain ⟨⟨ks, af, dl, sc, u⟩, hbk⟩ : ∃ b, bs[k] = b := ⟨_, rfl⟩
      rw [hbk] at hx ⊢
      have h1 : KeysU ks := hx.1
      have h2 : U64 sc := hx.2
      simp only [sel_true, brOk]
      by_cases hk : ks.length ≤ 12
      · rw [igt_false (by omega), pcontains.run (d := ks) ⟨h1, by omega⟩, lheight.run (d := af) trivial, lheight.run (d := dl) trivial, lbad.run (d := sc) h2, dec_true hk]
        simp only [sel_false, obind_some, pcontains.add, pcontains.F, lheight.add, lheight.F, lbad.add, lbad.F, Bool.true_and]
        cases ks.all isP
        · rfl
        cases htOk af
        · rfl
        cases htOk dl
        · rfl
        by_cases hs : sc = 0
        · rw [ine_false hs, dec_true hs]; rfl
        · rw [ine_true hs, dec_false hs]
          cases isP sc <;> rfl
      · rw [igt_true (by omega), dec_false hk]; rfl
    cases hp : brOk bs[k]
    · right
      refine ⟨lright.L0.ex0 (), ?_, fun kn kx => ?_⟩
      · simp only [lright.L0.add, lright.L0.F, Int.toNat_natCast, hd, hp, Bool.false_and, Bool.false_eq_true, if_false]
        rfl
      · rw [step, hp, sel_false]
    · left
      refine ⟨(l, bs, bs.length, ((k + 1 : Nat) : Int)), ⟨hl, hb, rfl, k + 1, by omega, rfl⟩, by simp only [Int.toNat_natCast]; omega, ?_, fun kn kx => ?_⟩
      · simp only [lright.L0.add, lright.L0.F, Int.toNat_natCast, hd, hp, Bool.true_and]
      · rw [step, hp, sel_true]
  · right
    obtain rfl : k = bs.length := by omega
    refine ⟨lright.L0.ex1 l, ?_, fun kn kx => ?_⟩
    · simp only [lright.L0.add, lright.L0.F, Int.toNat_natCast, List.drop_length]
      rfl
    · rw [lright.L0.step]
      simp (disch := omega) only [↓N.lt, ↓N.le, ↓N.gt, ↓N.ge, ↓N.eq, ↓N.ne, ↓N.ib, ↓N.ic, ↓N.nn, ↓N.nz, ↓N.dc, ↓N.rm, ↓N.an, ↓N.or, ↓N.no, ↓if_pos, ↓if_neg, ↓sel_true, ↓sel_false, ↓obind_some, if_pos, if_neg, obind_some, N.aNN, N.aNL, N.aLN, N.sNN, N.sNL, N.sLN, N.mNN, N.mNL, N.mLN, N.qNN, N.qNL, N.rNN, N.rNL, N.cN, N.cL, N.tL, Int.toNat_natCast, if_true, if_false, and_self, true_and, and_true]
theorem lright.ok : ∀ d, lright.Pre d → arun Try.prog lright.G lright.an 0 Try.f14 (lright.st d).1 (lright.st d).2 some = some (lright.out (lright.add d (lright.F d))) := by
  rintro l ⟨hl, hb⟩
  have hb : l.1.length ≤ 1000000000 := hb
  rw [lright.eq, lright.L0.run (d := (l, l.1, l.1.length, 0)) ⟨hl, hb, rfl, 0, by omega, rfl⟩]
  simp only [obind_some, lright.L0.add, lright.L0.F, Int.toNat_zero, List.drop_zero, lright.add, lright.F, lkOk]
  cases l.1.all brOk
  · rfl
  · simp only [if_true, Bool.true_and]
    show sel (igt _ _) _ _ = _
    by_cases h0 : 0 < l.1.length
    · rw [igt_true (by omega)]
      by_cases h4 : l.1.length ≤ 4
      · rw [ile_true (by omega), dec_true ⟨h0, h4⟩]; rfl
      · rw [ile_false (by omega), dec_false (fun x => h4 x.2)]; rfl
    · rw [igt_false (by omega), dec_false (fun x => h0 x.1)]; rfl

theorem lright.inj : ∀ d d', lright.st d = lright.st d' → d = d' := fun l l' hEq => by
  have e0 : l = l' := d_inj (t := (.pair (.slice (.pair (.slice (.int .u64)) (.pair (.int .i64) (.pair (.int .i64) (.pair (.int .u64) .unit))))) .unit)) (congrArg (fun s : List AVal × List Ent => (s.1.getD 0 .undef)) hEq)
  rw [e0]
noncomputable def lright.E : Entry := Entry.of [some (.pair (.slice (.pair (.slice (.int .u64)) (.pair (.int .i64) (.pair (.int .i64) (.pair (.int .u64) .unit))))) .unit)] lright.st lright.Pre (fun d => lright.add d (lright.F d)) lright.out
noncomputable def lright.call : lright.D → Option lright.X := fun d => lright.E.run (lright.st d).1 (lright.st d).2
theorem lright.run {d : lright.D} (h : lright.Pre d) : lright.call d = some (lright.add d (lright.F d)) := Entry.of_run lright.inj h
theorem lright.does : Does Try.prog 14 lright.E := Does.of (by kernel_rfl) (show Sound _ lright.G from Sound.cons pcontains.does (Sound.cons lheight.does (Sound.cons lbad.does (Sound.nil _)))) (by kernel_rfl) (by kernel_rfl) (by kernel_rfl) (LOk.fn 1 (by kernel_rfl) (And.intro (LDo.of (by kernel_rfl) lright.L0.ok) trivial)) lright.ok


/-- Do the signatures fit the keys? -/
def verAll (m : List Int) : List Int → List Sg → Bool
  | [], _ => true
  | p :: ps, ss => checks p m 1 (ss.headD (0, 0, ())) && verAll m ps ss.tail
def openL (l : Lk) (w : Wit) (m : List Int) (height age : Int) : Int :=
  if lkOk l = false ∨ w.1 < 0 ∨ w.1 ≥ l.1.length then 1
  else
    let b := nth (.pair (.slice (.int .u64)) (.pair (.int .i64) (.pair (.int .i64) (.pair (.int .u64) .unit)))) l.1 w.1.toNat
    if height < b.2.1 ∨ age < b.2.2.1 then 11
    else if b.2.2.2.1 ≠ 0 ∧ baseP w.2.2.1 ≠ b.2.2.2.1 then 23
    else if w.2.1.length ≠ b.1.length then 7
    else if verAll m b.1 w.2.1 then 0 else 7
theorem verAll_at (m : List Int) (ks : List Int) (ss : List Sg) (h : ss.length = ks.length) (k : Nat) (hk : k < ks.length) : verAll m (ks.drop k) (ss.drop k) = (checks ks[k] m 1 (ss[k]'(by omega)) && verAll m (ks.drop (k + 1)) (ss.drop (k + 1))) := by
  rw [List.drop_eq_getElem_cons hk, List.drop_eq_getElem_cons (by omega : k < ss.length)]
  rfl
def WitU (w : Wit) : Prop := (∀ s ∈ w.2.1, SgU s) ∧ U64 w.2.2.1

/-! ### corsned/lock.Open -/
abbrev lopen.L0.D := (Int × ((List (Int × (Int × Unit))) × (Int × Unit))) × (List Int) × (List Int) × Int × Int
def lopen.L0.st : lopen.L0.D → AS := fun (wv_2, m_2, t68, t69, t70) => ⟨(undN 6 ([.rptr (.pair (.int .i64) (.pair (.slice (.pair (.int .u64) (.pair (.int .u64) .unit))) (.pair (.int .u64) .unit))) wv_2, .rptr (.arr 32 (.int .u8)) m_2] ++ undN 60 ([.d (.slice (.int .u64)) t68, .d (.int .i64) t69, .d (.int .i64) t70] ++ undN 14 []))), [], (List.replicate 85 [])⟩
abbrev lopen.L0.Y0 := Unit
abbrev lopen.L0.X0 := Unit
def lopen.L0.ex0 : lopen.L0.X0 → Exit × AS := fun x => (.ret, ⟨(undN 10 ([.d (.int .i64) (7 : Int)] ++ undN 74 [])), [], (List.replicate 85 [])⟩)
abbrev lopen.L0.Y1 := Unit
abbrev lopen.L0.X1 := Unit
def lopen.L0.ex1 : lopen.L0.X1 → Exit × AS := fun x => (.exit 1, ⟨(undN 85 []), [], (List.replicate 85 [])⟩)
abbrev lopen.L0.X := (lopen.L0.X0) ⊕ (lopen.L0.X1)
abbrev lopen.L0.Y := (lopen.L0.Y0) ⊕ (lopen.L0.Y1)
def lopen.L0.out : lopen.L0.X → Out (Exit × AS) := fun x => .br x.isLeft (.get x.getLeft? fun a => .ok (lopen.L0.ex0 a)) (.get x.getRight? fun b => .ok (lopen.L0.ex1 b))
def lopen.L0.add : lopen.L0.D → lopen.L0.Y → lopen.L0.X := fun (wv_2, m_2, t68, t69, t70) y => match y with | .inl y => .inl y | .inr z => .inr (z)
abbrev lopen.D := ((List ((List Int) × (Int × (Int × (Int × Unit))))) × Unit) × (Int × ((List (Int × (Int × Unit))) × (Int × Unit))) × (List Int) × Int × Int
def lopen.st : lopen.D → List AVal × List Ent := fun (l, wv, m, height, age) => ([.d (.pair (.slice (.pair (.slice (.int .u64)) (.pair (.int .i64) (.pair (.int .i64) (.pair (.int .u64) .unit))))) .unit) l, .d (.pair (.int .i64) (.pair (.slice (.pair (.int .u64) (.pair (.int .u64) .unit))) (.pair (.int .u64) .unit))) wv, .d (.arr 32 (.int .u8)) m, .d (.int .i64) height, .d (.int .i64) age], [])
abbrev lopen.Y := Int
abbrev lopen.X := Int
def lopen.out : lopen.X → GRes := fun x => ⟨.d (.int .i64) x, [], []⟩
def lopen.add : lopen.D → lopen.Y → lopen.X := fun (l, wv, m, height, age) y => y


def lopen.L0.Pre : lopen.L0.D → Prop := fun (w, m, ks, n, i) => WitU w ∧ Sm m ∧ KeysU ks ∧ ks.length ≤ 1000000000 ∧ w.2.1.length = ks.length ∧ n = ks.length ∧ ∃ k : Nat, k ≤ ks.length ∧ i = k
def lopen.L0.F : lopen.L0.D → lopen.L0.Y := fun (w, m, ks, n, i) => if verAll m (ks.drop i.toNat) (w.2.1.drop i.toNat) then .inr () else .inl ()
def lopen.Pre : lopen.D → Prop := fun (l, w, m, h, a) => LkU l ∧ l.1.length ≤ 1000000000 ∧ WitU w ∧ Sm m
def lopen.F : lopen.D → lopen.Y := fun (l, w, m, h, a) => openL l w m h a

noncomputable def lopen.G : Gam := gcons 14 anyArgs lright.E (gcons 12 anyArgs pbase.E (gcons 32 anyArgs sverify.E (gnil)))
noncomputable def lopen.L0.E : LEntry := LEntry.of lopen.L0.st lopen.L0.Pre (fun d => lopen.L0.add d (lopen.L0.F d)) lopen.L0.out
noncomputable def lopen.L0.call : lopen.L0.D → Option lopen.L0.X := fun d => lopen.L0.E.run (lopen.L0.st d)
noncomputable def lopen.an : Ann := {
  objs := [],
  loops := fun r => bif Nat.beq r 11 then { keep := [6, 7, 68, 69, 70], sites := [], frz := [], data := [], owns := [] } else { keep := [], sites := [], frz := [], data := [], owns := [] },
  outs := fun r b => bif Nat.beq r 11 then (bif b then { keep := [10], sites := [], frz := [], data := [], owns := [] } else { keep := [], sites := [], frz := [], data := [], owns := [] }) else { keep := [], sites := [], frz := [], data := [], owns := [] },
  sums := fun r => bif Nat.beq r 11 then some lopen.L0.E else none,
  owns := [],
  trim := [],
  res := [] }
theorem lopen.L0.inj : ∀ d d', lopen.L0.st d = lopen.L0.st d' → d = d' := fun (wv_2, m_2, t68, t69, t70) (wv_2', m_2', t68', t69', t70') hEq => by
  have e0 : wv_2 = wv_2' := rptr_inj (t := (.pair (.int .i64) (.pair (.slice (.pair (.int .u64) (.pair (.int .u64) .unit))) (.pair (.int .u64) .unit)))) (congrArg (fun s : AS => (s.slot 6)) hEq)
  have e1 : m_2 = m_2' := rptr_inj (t := (.arr 32 (.int .u8))) (congrArg (fun s : AS => (s.slot 7)) hEq)
  have e2 : t68 = t68' := d_inj (t := (.slice (.int .u64))) (congrArg (fun s : AS => (s.slot 68)) hEq)
  have e3 : t69 = t69' := d_inj (t := (.int .i64)) (congrArg (fun s : AS => (s.slot 69)) hEq)
  have e4 : t70 = t70' := d_inj (t := (.int .i64)) (congrArg (fun s : AS => (s.slot 70)) hEq)
  rw [e0, e1, e2, e3, e4]
theorem lopen.L0.run {d : lopen.L0.D} (h : lopen.L0.Pre d) : lopen.L0.call d = some (lopen.L0.add d (lopen.L0.F d)) := LEntry.of_run lopen.L0.inj h
theorem lopen.L0.byRounds (μ : lopen.L0.D → Nat) (h : ∀ d, lopen.L0.Pre d → (∃ d', lopen.L0.Pre d' ∧ μ d' < μ d ∧ lopen.L0.add d' (lopen.L0.F d') = lopen.L0.add d (lopen.L0.F d) ∧ ∀ {R : Type} (kn : AS → Option R) (kx : Exit → AS → Option R), lround Try.prog lopen.G lopen.an 0 Try.f10 0 (lopen.L0.st d) kn kx = kn (lopen.L0.st d')) ∨ (∃ r, (lopen.L0.out (lopen.L0.add d (lopen.L0.F d))).eval = some r ∧ ∀ {R : Type} (kn : AS → Option R) (kx : Exit → AS → Option R), lround Try.prog lopen.G lopen.an 0 Try.f10 0 (lopen.L0.st d) kn kx = kx r.1 r.2)) : ∀ d, lopen.L0.Pre d → ∃ n, lrun Try.prog lopen.G lopen.an 0 Try.f10 0 n (lopen.L0.st d) (fun e s => some (e, s)) = (lopen.L0.out (lopen.L0.add d (lopen.L0.F d))).eval := lrun_of (F := fun d => lopen.L0.add d (lopen.L0.F d)) (out := lopen.L0.out) μ h
theorem lopen.L0.step {R : Type} (wv_2 : (Int × ((List (Int × (Int × Unit))) × (Int × Unit)))) (m_2 : (List Int)) (t68 : (List Int)) (t69 : Int) (t70 : Int) (kn : AS → Option R) (kx : Exit → AS → Option R) : lround Try.prog lopen.G lopen.an 0 Try.f10 0 (lopen.L0.st (wv_2, m_2, t68, t69, t70)) kn kx =
  sel ((ilt t70 t69)) (
   sel (inb t70 (((List.length t68) : Nat) : Int)) (
   sel (inb t70 (((List.length wv_2.2.1) : Nat) : Int)) (
   obind (sverify.call ((nth (.int .u64) t68 (Int.toNat t70)), m_2, (nth (.pair (.int .u64) (.pair (.int .u64) .unit)) wv_2.2.1 (Int.toNat t70)))) fun x1 =>
   sel ((!x1)) (
    kx (lopen.L0.ex0 ()).1 (lopen.L0.ex0 ()).2) (
    kn (lopen.L0.st (wv_2, m_2, t68, t69, (iadd .i64 t70 (1 : Int)))))) none) none) (
   kx (lopen.L0.ex1 ()).1 (lopen.L0.ex1 ()).2) := by kernel_rfl
theorem lopen.eq {R : Type} (l : ((List ((List Int) × (Int × (Int × (Int × Unit))))) × Unit)) (wv : (Int × ((List (Int × (Int × Unit))) × (Int × Unit)))) (m : (List Int)) (height : Int) (age : Int) (k : GRes → Option R) : arun Try.prog lopen.G lopen.an 0 Try.f10 (lopen.st (l, wv, m, height, age)).1 (lopen.st (l, wv, m, height, age)).2 k =
  obind (lright.call l) fun x1 =>
  sel ((!x1)) (
   k (lopen.out (1 : Int))) (
   sel ((ilt wv.1 (0 : Int))) (
    k (lopen.out (1 : Int))) (
    sel ((ige wv.1 (((List.length l.1) : Nat) : Int))) (
     k (lopen.out (1 : Int))) (
     sel (inb wv.1 (((List.length l.1) : Nat) : Int)) (
     sel ((ilt height (nth (.pair (.slice (.int .u64)) (.pair (.int .i64) (.pair (.int .i64) (.pair (.int .u64) .unit)))) l.1 (Int.toNat wv.1)).2.1)) (
      k (lopen.out (11 : Int))) (
      sel ((ilt age (nth (.pair (.slice (.int .u64)) (.pair (.int .i64) (.pair (.int .i64) (.pair (.int .u64) .unit)))) l.1 (Int.toNat wv.1)).2.2.1)) (
       k (lopen.out (11 : Int))) (
       sel ((ine (nth (.pair (.slice (.int .u64)) (.pair (.int .i64) (.pair (.int .i64) (.pair (.int .u64) .unit)))) l.1 (Int.toNat wv.1)).2.2.2.1 (0 : Int))) (
        obind (pbase.call wv.2.2.1) fun x2 =>
        sel ((ine x2 (nth (.pair (.slice (.int .u64)) (.pair (.int .i64) (.pair (.int .i64) (.pair (.int .u64) .unit)))) l.1 (Int.toNat wv.1)).2.2.2.1)) (
         k (lopen.out (23 : Int))) (
         sel ((ine (((List.length wv.2.1) : Nat) : Int) (((List.length (nth (.pair (.slice (.int .u64)) (.pair (.int .i64) (.pair (.int .i64) (.pair (.int .u64) .unit)))) l.1 (Int.toNat wv.1)).1) : Nat) : Int))) (
          k (lopen.out (7 : Int))) (
          obind (lopen.L0.call (wv, m, (nth (.pair (.slice (.int .u64)) (.pair (.int .i64) (.pair (.int .i64) (.pair (.int .u64) .unit)))) l.1 (Int.toNat wv.1)).1, (((List.length (nth (.pair (.slice (.int .u64)) (.pair (.int .i64) (.pair (.int .i64) (.pair (.int .u64) .unit)))) l.1 (Int.toNat wv.1)).1) : Nat) : Int), (0 : Int))) fun x4 =>
          sel (x4.isLeft) (
           obind (x4.getLeft?) fun a5 =>
           k (lopen.out (7 : Int))) (
           obind (x4.getRight?) fun b6 =>
           k (lopen.out (0 : Int)))))) (
        sel ((ine (((List.length wv.2.1) : Nat) : Int) (((List.length (nth (.pair (.slice (.int .u64)) (.pair (.int .i64) (.pair (.int .i64) (.pair (.int .u64) .unit)))) l.1 (Int.toNat wv.1)).1) : Nat) : Int))) (
         k (lopen.out (7 : Int))) (
         obind (lopen.L0.call (wv, m, (nth (.pair (.slice (.int .u64)) (.pair (.int .i64) (.pair (.int .i64) (.pair (.int .u64) .unit)))) l.1 (Int.toNat wv.1)).1, (((List.length (nth (.pair (.slice (.int .u64)) (.pair (.int .i64) (.pair (.int .i64) (.pair (.int .u64) .unit)))) l.1 (Int.toNat wv.1)).1) : Nat) : Int), (0 : Int))) fun x7 =>
         sel (x7.isLeft) (
          obind (x7.getLeft?) fun a8 =>
          k (lopen.out (7 : Int))) (
          obind (x7.getRight?) fun b9 =>
          k (lopen.out (0 : Int)))))))) none))) := by kernel_rfl


theorem lopen.L0.ok : ∀ d, lopen.L0.Pre d → ∃ n, lrun Try.prog lopen.G lopen.an 0 Try.f10 0 n (lopen.L0.st d) (fun e s => some (e, s)) = (lopen.L0.out (lopen.L0.add d (lopen.L0.F d))).eval := by
  refine lopen.L0.byRounds (fun (w, m, ks, n, i) => ks.length - i.toNat) ?_
  rintro ⟨w, m, ks, n, i⟩ ⟨hw, hm, hl, hb, hs, rfl, k, hk, rfl⟩
  have hb : ks.length ≤ 1000000000 := hb
  have hk : k ≤ ks.length := hk
  have hs : w.2.1.length = ks.length := hs
  by_cases h : k < ks.length
  · have hx := hl _ (List.getElem_mem h)
    have hy := hw.1 _ (List.getElem_mem (by omega : k < w.2.1.length))
    have n1 : nth (.int .u64) ks k = ks[k] := nth_lt (t := .int .u64) h
    have n2 : nth (.pair (.int .u64) (.pair (.int .u64) .unit)) w.2.1 k = w.2.1[k]'(by omega) := nth_lt (t := (.pair (.int .u64) (.pair (.int .u64) .unit))) (by omega)
    have hd := verAll_at m ks w.2.1 hs k h
    have step : ∀ {R : Type} (kn : AS → Option R) (kx : Exit → AS → Option R), lround Try.prog lopen.G lopen.an 0 Try.f10 0 (lopen.L0.st (w, m, ks, (ks.length : Int), (k : Int))) kn kx = sel (checks ks[k] m 1 (w.2.1[k]'(by omega))) (kn (lopen.L0.st (w, m, ks, (ks.length : Int), ((k + 1 : Nat) : Int)))) (kx (lopen.L0.ex0 ()).1 (lopen.L0.ex0 ()).2) := by
      intro R kn kx
      rw [lopen.L0.step, ilt_true (by omega), inb_true (by omega) (by omega), inb_true (by omega) (by omega), Int.toNat_natCast, n1, n2, N.aNL (by omega), sverify.run (d := (ks[k], m, w.2.1[k]'(by omega))) ⟨hx, hm, hy⟩]
      simp only [sel_true, obind_some, sverify.add, sverify.F]
      cases checks ks[k] m 1 (w.2.1[k]'(by omega)) <;> rfl
    cases hp : checks ks[k] m 1 (w.2.1[k]'(by omega))
    · right
      refine ⟨lopen.L0.ex0 (), ?_, fun kn kx => ?_⟩
      · simp only [lopen.L0.add, lopen.L0.F, Int.toNat_natCast, hd, hp, Bool.false_and, Bool.false_eq_true, if_false]
        rfl
      · rw [step, hp, sel_false]
    · left
      refine ⟨(w, m, ks, ks.length, ((k + 1 : Nat) : Int)), ⟨hw, hm, hl, hb, hs, rfl, k + 1, by omega, rfl⟩, by simp only [Int.toNat_natCast]; omega, ?_, fun kn kx => ?_⟩
      · simp only [lopen.L0.add, lopen.L0.F, Int.toNat_natCast, hd, hp, Bool.true_and]
      · rw [step, hp, sel_true]
  · right
    obtain rfl : k = ks.length := by omega
    refine ⟨lopen.L0.ex1 (), ?_, fun kn kx => ?_⟩
    · simp only [lopen.L0.add, lopen.L0.F, Int.toNat_natCast, List.drop_length]
      rfl
    · rw [lopen.L0.step]
      simp (disch := omega) only [↓N.lt, ↓N.le, ↓N.gt, ↓N.ge, ↓N.eq, ↓N.ne, ↓N.ib, ↓N.ic, ↓N.nn, ↓N.nz, ↓N.dc, ↓N.rm, ↓N.an, ↓N.or, ↓N.no, ↓if_pos, ↓if_neg, ↓sel_true, ↓sel_false, ↓obind_some, if_pos, if_neg, obind_some, N.aNN, N.aNL, N.aLN, N.sNN, N.sNL, N.sLN, N.mNN, N.mNL, N.mLN, N.qNN, N.qNL, N.rNN, N.rNL, N.cN, N.cL, N.tL, Int.toNat_natCast, if_true, if_false, and_self, true_and, and_true]
theorem lkOk_keys {l : Lk} (h : lkOk l = true) {b : Brn} (hb : b ∈ l.1) : b.1.length ≤ 12 := by
  unfold lkOk at h
  rw [Bool.and_eq_true, List.all_eq_true] at h
  have := h.1 b hb
  unfold brOk at this
  rw [Bool.and_eq_true] at this
  simpa using this.1
theorem lopen.ok : ∀ d, lopen.Pre d → arun Try.prog lopen.G lopen.an 0 Try.f10 (lopen.st d).1 (lopen.st d).2 some = some (lopen.out (lopen.add d (lopen.F d))) := by
  rintro ⟨l, w, m, h, a⟩ ⟨hl, hb, hw, hm⟩
  have hl : LkU l := hl
  have hb : l.1.length ≤ 1000000000 := hb
  have hw : WitU w := hw
  have hm : Sm m := hm
  rw [lopen.eq, lright.run (d := l) ⟨hl, hb⟩]
  simp only [obind_some, lright.add, lright.F, lopen.add, lopen.F, openL]
  cases hok : lkOk l
  · rw [if_pos (Or.inl rfl)]; rfl
  by_cases h0 : w.1 < 0
  · rw [ilt_true h0, if_pos (Or.inr (Or.inl h0))]; rfl
  by_cases h1 : w.1 ≥ l.1.length
  · rw [ilt_false h0, ige_true h1, if_pos (Or.inr (Or.inr h1))]; rfl
  rw [ilt_false h0, ige_false h1, inb_true (by omega) (by omega), if_neg (by simp [h0]; omega)]
  have hn : w.1.toNat < l.1.length := by omega
  have n1 : nth (.pair (.slice (.int .u64)) (.pair (.int .i64) (.pair (.int .i64) (.pair (.int .u64) .unit)))) l.1 w.1.toNat = l.1[w.1.toNat] := nth_lt (t := (.pair (.slice (.int .u64)) (.pair (.int .i64) (.pair (.int .i64) (.pair (.int .u64) .unit))))) hn
  rw [n1]
  have hx : BrU l.1[w.1.toNat] := hl _ (List.getElem_mem hn)
  have hkl := lkOk_keys hok (List.getElem_mem hn)
  obtain ⟨⟨ks, af, dl, sc, u⟩, hbk⟩ : ∃ b, l.1[w.1.toNat] = b := ⟨_, rfl⟩
  rw [hbk] at hx hkl ⊢
  have hks : KeysU ks := hx.1
  have hkl : ks.length ≤ 12 := hkl
  simp only [Bool.not_true, sel_false, sel_true]
  by_cases e1 : h < af
  · rw [ilt_true e1, if_pos (Or.inl e1)]; rfl
  by_cases e2 : a < dl
  · rw [ilt_false e1, ilt_true e2, if_pos (Or.inr e2)]; rfl
  rw [ilt_false e1, ilt_false e2, if_neg (by simp [e1, e2]), pbase.run (d := w.2.2.1) hw.2]
  simp only [sel_false, obind_some, pbase.add, pbase.F]
  have last : sel (ine ((w.2.1.length : Nat) : Int) ((ks.length : Nat) : Int)) (some (lopen.out (7 : Int))) (
          obind (lopen.L0.call (w, m, ks, ((ks.length : Nat) : Int), (0 : Int))) fun x4 =>
          sel (x4.isLeft) (obind (x4.getLeft?) fun a5 => some (lopen.out (7 : Int))) (obind (x4.getRight?) fun b6 => some (lopen.out (0 : Int)))) = some (lopen.out (if w.2.1.length ≠ ks.length then 7 else if verAll m ks w.2.1 then 0 else 7)) := by
    by_cases e3 : w.2.1.length = ks.length
    · rw [ine_false (by omega), if_neg (by simp [e3]), sel_false, lopen.L0.run (d := (w, m, ks, ks.length, 0)) ⟨hw, hm, hks, by show ks.length ≤ 1000000000; omega, e3, rfl, 0, by omega, rfl⟩]
      simp only [obind_some, lopen.L0.add, lopen.L0.F, Int.toNat_zero, List.drop_zero]
      cases verAll m ks w.2.1 <;> rfl
    · rw [ine_true (by omega), if_pos e3]; rfl
  by_cases e4 : sc = 0
  · rw [ine_false e4, if_neg (by simp [e4]), sel_false]
    exact last
  · rw [ine_true e4, sel_true]
    by_cases e5 : baseP w.2.2.1 = sc
    · rw [ine_false e5, if_neg (by simp [e5]), sel_false]
      exact last
    · rw [ine_true e5, if_pos ⟨e4, e5⟩]; rfl

theorem lopen.inj : ∀ d d', lopen.st d = lopen.st d' → d = d' := fun (l, wv, m, height, age) (l', wv', m', height', age') hEq => by
  have e0 : l = l' := d_inj (t := (.pair (.slice (.pair (.slice (.int .u64)) (.pair (.int .i64) (.pair (.int .i64) (.pair (.int .u64) .unit))))) .unit)) (congrArg (fun s : List AVal × List Ent => (s.1.getD 0 .undef)) hEq)
  have e1 : wv = wv' := d_inj (t := (.pair (.int .i64) (.pair (.slice (.pair (.int .u64) (.pair (.int .u64) .unit))) (.pair (.int .u64) .unit)))) (congrArg (fun s : List AVal × List Ent => (s.1.getD 1 .undef)) hEq)
  have e2 : m = m' := d_inj (t := (.arr 32 (.int .u8))) (congrArg (fun s : List AVal × List Ent => (s.1.getD 2 .undef)) hEq)
  have e3 : height = height' := d_inj (t := (.int .i64)) (congrArg (fun s : List AVal × List Ent => (s.1.getD 3 .undef)) hEq)
  have e4 : age = age' := d_inj (t := (.int .i64)) (congrArg (fun s : List AVal × List Ent => (s.1.getD 4 .undef)) hEq)
  rw [e0, e1, e2, e3, e4]
noncomputable def lopen.E : Entry := Entry.of [some (.pair (.slice (.pair (.slice (.int .u64)) (.pair (.int .i64) (.pair (.int .i64) (.pair (.int .u64) .unit))))) .unit), some (.pair (.int .i64) (.pair (.slice (.pair (.int .u64) (.pair (.int .u64) .unit))) (.pair (.int .u64) .unit))), some (.arr 32 (.int .u8)), some (.int .i64), some (.int .i64)] lopen.st lopen.Pre (fun d => lopen.add d (lopen.F d)) lopen.out
noncomputable def lopen.call : lopen.D → Option lopen.X := fun d => lopen.E.run (lopen.st d).1 (lopen.st d).2
theorem lopen.run {d : lopen.D} (h : lopen.Pre d) : lopen.call d = some (lopen.add d (lopen.F d)) := Entry.of_run lopen.inj h
theorem lopen.does : Does Try.prog 10 lopen.E := Does.of (by kernel_rfl) (show Sound _ lopen.G from Sound.cons lright.does (Sound.cons pbase.does (Sound.cons sverify.does (Sound.nil _)))) (by kernel_rfl) (by kernel_rfl) (by kernel_rfl) (LOk.fn 1 (by kernel_rfl) (And.intro (LDo.of (by kernel_rfl) lopen.L0.ok) trivial)) lopen.ok

end Go.Ab
