/-
  Outcomes; looking into contents and changing them; objects; what a step may do to memory.
-/
import Derived.Test.YtdmpbapgnkdjpaaAb2
namespace Go.Ab

/-! ### Outcomes -/

section
variable {α β : Type}
theorem eval_ok {a b : α} : (Out.ok a).eval = some b ↔ a = b := by simp [Out.eval]
theorem eval_fail {b : α} : (Out.fail : Out α).eval = some b ↔ False := by simp [Out.eval]
theorem eval_chk {c : Bool} {r : Out α} {b : α} : (Out.chk c r).eval = some b ↔ c = true ∧ r.eval = some b := by cases c <;> simp [Out.eval]
theorem eval_guard {c : Bool} {r : Out α} {b : α} : (Out.guard c r).eval = some b ↔ c = true ∧ r.eval = some b := by cases c <;> simp [Out.guard, Out.eval]
theorem eval_get {x : Option β} {f : β → Out α} {b : α} : (Out.get x f).eval = some b ↔ ∃ y, x = some y ∧ (f y).eval = some b := by
  cases x <;> simp [Out.eval]
theorem eval_opt {x : Option α} {b : α} : (Out.opt x).eval = some b ↔ x = some b := by cases x <;> simp [Out.opt, Out.eval]
theorem eval_bind_eq (o : Out α) (f : α → Out β) : (o.bind f).eval = o.eval.bind fun a => (f a).eval := by
  induction o with
  | ok a => rfl
  | fail => rfl
  | chk c r ih => cases c <;> simp [Out.bind, Out.eval, ih]
  | get x g ih => cases x <;> simp [Out.bind, Out.eval, ih]
  | br c x y ih1 ih2 => cases c <;> simp [Out.bind, Out.eval, ih1, ih2]
theorem eval_bind {o : Out α} {f : α → Out β} {b : β} : (o.bind f).eval = some b ↔ ∃ a, o.eval = some a ∧ (f a).eval = some b := by
  rw [eval_bind_eq]; simp [Option.bind_eq_some_iff]

theorem run_eq {R : Type} (o : Out α) (k : α → Option R) : o.run k = o.eval.bind k := by
  induction o with
  | ok a => rfl
  | fail => rfl
  | chk c r ih => cases c <;> simp [Out.run, Out.eval, sel, ih]
  | get x g ih => cases x <;> simp [Out.run, Out.eval, obind, ih]
  | br c x y ih1 ih2 => cases c <;> simp [Out.run, Out.eval, sel, ih1, ih2]
theorem run_some {R : Type} {o : Out α} {k : α → Option R} {r : R} : o.run k = some r ↔ ∃ a, o.eval = some a ∧ k a = some r := by
  rw [run_eq]; simp [Option.bind_eq_some_iff]
end

theorem castTy_some {t t' : Ty} {x : t.den} {y : t'.den} (h : castTy t t' x = some y) : ∃ e : t = t', e ▸ x = y := by
  unfold castTy at h
  split at h
  · rename_i e; exact ⟨e, by simpa using h⟩
  · cases h

/-! ### Contents -/

def VO (E : Env) : AVal → List Value → Prop
  | .vec _ t l, cs => Chunks (Rep E t) cs l
  | a, cs => V E a cs

theorem VO.of {E : Env} {a : AVal} {cs : List Value} (h : V E a cs) : VO E a cs := by
  cases a <;> first | exact h | (simp only [V] at h)

def AVal.isVec : AVal → Bool | .vec .. => true | _ => false

theorem VO.to {E : Env} {a : AVal} {cs : List Value} (h : VO E a cs) (hn : a.isVec = false) : V E a cs := by
  cases a <;> first | exact h | (simp [AVal.isVec] at hn)

theorem VO.mono {E E' : Env} (h : EnvLe E E') {a : AVal} {cs : List Value} (hv : VO E a cs) : VO E' a cs := by
  cases a <;> first | exact V.mono h hv | exact Chunks.mono (fun _ _ hx => hx.mono h.mem) hv

theorem nth_eq {t : Ty} {l : List t.den} {i : Nat} (h : i < l.length) : nth t l i = l[i] := by
  unfold nth; simp [h]

theorem part_mid {α : Type} (cs : List α) (n m k j : Nat) (h : k + j ≤ m) : (((cs.drop n).take m).drop k).take j = (cs.drop (n + k)).take j := by
  rw [List.drop_take, List.take_take, List.drop_drop]
  congr 1
  omega

theorem row_part {E : Env} {t : Ty} {cs : List Value} {l : List t.den} (h : Chunks (Rep E t) cs l) {i : Nat} (hi : i < l.length) :
    Rep E t ((cs.drop (i * t.size)).take t.size) l[i] ∧ i * t.size + t.size ≤ cs.length := by
  have hz : ∀ c x, Rep E t c x → c.length = t.size := fun c x hx => hx.size
  refine ⟨h.get hz i hi, ?_⟩
  rw [h.length hz, ← Nat.succ_mul]
  exact Nat.mul_le_mul_right _ hi

/-- The part of a content that a path leads to. -/
theorem loc_sound {E : Env} : ∀ (p : List Stp) (c : AVal) (cs : List Value) (n : Nat) (v : AVal), VO E c cs → (loc c p).eval = some (n, v) →
    (n = 0 ∧ v = c) ∨ (V E v ((cs.drop n).take v.size) ∧ n + v.size ≤ cs.length)
  | [], c, cs, n, v, hc, h => by
    left
    simp only [loc, eval_ok, Prod.mk.injEq] at h
    exact ⟨h.1.symm, h.2.symm⟩
  | st :: p, c, cs, n, v, hc, h => by
    by_cases hst : st = .arr
    · subst hst
      have h' : (loc c p).eval = some (n, v) := by cases c <;> simpa only [loc] using h
      exact loc_sound p c cs n v hc h'
    right
    have whole : ∀ (c' : AVal) (cs' : List Value) (n' : Nat) (v' : AVal), V E c' cs' → (loc c' p).eval = some (n', v') → V E v' ((cs'.drop n').take v'.size) ∧ n' + v'.size ≤ cs'.length := by
      intro c' cs' n' v' hc' hl
      rcases loc_sound p c' cs' n' v' (VO.of hc') hl with ⟨rfl, rfl⟩ | hh
      · have := hc'.size
        rw [List.drop_zero, List.take_of_length_le (by omega)]
        exact ⟨hc', by omega⟩
      · exact hh
    have second : ∀ (a b : AVal) (ca cb : List Value), cs = ca ++ cb → ca.length = a.size → V E b cb → ((loc b p).bind fun (n, v) => Out.ok (a.size + n, v)).eval = some (n, v) →
        V E v ((cs.drop n).take v.size) ∧ n + v.size ≤ cs.length := by
      intro a b ca cb e hl hb hh
      obtain ⟨⟨n', v'⟩, h1, h2⟩ := eval_bind.1 hh
      simp only [eval_ok, Prod.mk.injEq] at h2
      obtain ⟨rfl, rfl⟩ := h2
      obtain ⟨h3, h4⟩ := whole b cb n' v' hb h1
      subst e
      rw [← hl, List.drop_append, List.drop_of_length_le (by omega), List.nil_append, Nat.add_sub_cancel_left]
      exact ⟨h3, by simp only [List.length_append]; omega⟩
    have elem : ∀ (t : Ty) (l : List t.den) (i : Nat), Chunks (Rep E t) cs l → (Out.chk (decide (i < l.length)) ((loc (.d t (nth t l i)) p).bind fun (n, v) => Out.ok (i * t.size + n, v))).eval = some (n, v) →
        V E v ((cs.drop n).take v.size) ∧ n + v.size ≤ cs.length := by
      intro t l i hch hh
      obtain ⟨hi, hh⟩ := eval_chk.1 hh
      have hi : i < l.length := by simpa using hi
      obtain ⟨⟨n', v'⟩, h1, h2⟩ := eval_bind.1 hh
      simp only [eval_ok, Prod.mk.injEq] at h2
      obtain ⟨rfl, rfl⟩ := h2
      obtain ⟨hp, hle⟩ := row_part hch hi
      rw [nth_eq hi] at h1
      have hv : V E (.d t l[i]) ((cs.drop (i * t.size)).take t.size) := by simpa only [V] using hp
      obtain ⟨h3, h4⟩ := whole _ _ n' v' hv h1
      have hlen : ((cs.drop (i * t.size)).take t.size).length = t.size := hp.size
      rw [part_mid _ _ _ _ _ (by omega)] at h3
      exact ⟨h3, by omega⟩
    cases c with
    | pr a b =>
      simp only [VO, V] at hc
      obtain ⟨ca, cb, e, ha, hb⟩ := hc
      cases st with
      | arr => exact absurd rfl hst
      | fst =>
        simp only [loc] at h
        obtain ⟨h3, h4⟩ := whole a ca n v ha h
        subst e
        refine ⟨?_, by simp only [List.length_append]; omega⟩
        rw [List.drop_append, List.take_append, List.length_drop, Nat.sub_eq_zero_of_le (by omega : v.size ≤ ca.length - n), List.take_zero, List.append_nil]
        exact h3
      | snd => simp only [loc] at h; exact second a b ca cb e ha.size hb h
      | idx i => simp only [loc, eval_fail] at h
    | d t x =>
      simp only [VO, V] at hc
      cases t with
      | pair ta tb =>
        simp only [Rep] at hc
        obtain ⟨ca, cb, e, ha, hb⟩ := hc
        cases st with
        | arr => exact absurd rfl hst
        | fst =>
          simp only [loc] at h
          obtain ⟨h3, h4⟩ := whole (.d ta x.1) ca n v (by simpa only [V] using ha) h
          subst e
          refine ⟨?_, by simp only [List.length_append]; omega⟩
          rw [List.drop_append, List.take_append, List.length_drop, Nat.sub_eq_zero_of_le (by omega : v.size ≤ ca.length - n), List.take_zero, List.append_nil]
          exact h3
        | snd => simp only [loc] at h; exact second (.d ta x.1) (.d tb x.2) ca cb e ha.size (by simpa only [V] using hb) h
        | idx i => simp only [loc, eval_fail] at h
      | arr m t =>
        simp only [Rep] at hc
        cases st with
        | arr => exact absurd rfl hst
        | idx i => simp only [loc] at h; exact elem t x i hc.2 h
        | fst => simp only [loc, eval_fail] at h
        | snd => simp only [loc, eval_fail] at h
      | _ => cases st <;> first | exact absurd rfl hst | (simp only [loc, eval_fail] at h)
    | vec e t l =>
      simp only [VO] at hc
      cases st with
      | arr => exact absurd rfl hst
      | idx i => simp only [loc] at h; exact elem t l i hc h
      | fst => simp only [loc, eval_fail] at h
      | snd => simp only [loc, eval_fail] at h
    | _ => cases st <;> first | exact absurd rfl hst | (simp only [loc, eval_fail] at h)

theorem V_mkPr {E : Env} {a b : AVal} {ca cb : List Value} (ha : V E a ca) (hb : V E b cb) : V E (mkPr a b) (ca ++ cb) := by
  have gen : V E (.pr a b) (ca ++ cb) := by simp only [V]; exact ⟨ca, cb, rfl, ha, hb⟩
  unfold mkPr
  split
  · simp only [V] at ha hb ⊢
    simp only [Rep]
    exact ⟨ca, cb, rfl, ha, hb⟩
  · exact gen

theorem mkPr_notVec (a b : AVal) : (mkPr a b).isVec = false := by unfold mkPr; split <;> rfl

def splice (cs : List Value) (n : Nat) (vs : List Value) : List Value := cs.take n ++ vs ++ cs.drop (n + vs.length)

theorem splice_all {cs vs : List Value} (h : cs.length = vs.length) : splice cs 0 vs = vs := by
  simp [splice, List.drop_of_length_le (by omega : cs.length ≤ vs.length)]

theorem splice_left {ca cb vs : List Value} {n : Nat} (h : n + vs.length ≤ ca.length) : splice (ca ++ cb) n vs = splice ca n vs ++ cb := by
  unfold splice
  rw [List.take_append, List.drop_append, Nat.sub_eq_zero_of_le (by omega : n ≤ ca.length), List.take_zero, List.append_nil, Nat.sub_eq_zero_of_le h, List.drop_zero]
  simp only [List.append_assoc]

theorem splice_right {ca cb vs : List Value} {n : Nat} : splice (ca ++ cb) (ca.length + n) vs = ca ++ splice cb n vs := by
  unfold splice
  rw [List.take_append, List.take_of_length_le (by omega), Nat.add_sub_cancel_left, List.drop_append, List.drop_of_length_le (by omega), List.nil_append]
  simp only [List.append_assoc]
  congr 4
  omega

theorem splice_mid {cs vs : List Value} {i z n : Nat} (hz : i + z ≤ cs.length) (h : n + vs.length ≤ z) :
    splice cs (i + n) vs = cs.take i ++ splice ((cs.drop i).take z) n vs ++ cs.drop (i + z) := by
  have e : cs = cs.take i ++ ((cs.drop i).take z ++ cs.drop (i + z)) := by
    rw [← List.drop_drop, List.take_append_drop, List.take_append_drop]
  have hl : (cs.take i).length = i := by simp; omega
  have hm : ((cs.drop i).take z).length = z := by simp; omega
  conv => lhs; rw [e, show i + n = (cs.take i).length + n by rw [hl]]
  rw [splice_right, splice_left (by omega)]
  simp only [List.append_assoc]

theorem splice_length {cs vs : List Value} {n : Nat} (h : n + vs.length ≤ cs.length) : (splice cs n vs).length = cs.length := by
  simp [splice]; omega

def SameShape : AVal → AVal → Prop
  | .vec e t l, .vec e' t' l' => e' = e ∧ t' = t ∧ l'.length = l.length
  | .vec .., _ => False
  | _, .vec .. => False
  | _, _ => True

theorem SameShape.notVec {a b : AVal} (h : SameShape a b) (ha : a.isVec = false) : b.isVec = false := by
  cases b <;> first
    | rfl
    | (cases a <;> first | (simp [AVal.isVec] at ha; done) | exact h.elim)

theorem SameShape.of {a b : AVal} (ha : a.isVec = false) (hb : b.isVec = false) : SameShape a b := by
  cases a <;> first
    | (simp [AVal.isVec] at ha; done)
    | (cases b <;> first | trivial | (simp [AVal.isVec] at hb; done))

theorem V.notVec {E : Env} {a : AVal} {cs : List Value} (h : V E a cs) : a.isVec = false := by
  cases a <;> first | rfl | (simp only [V] at h)

/-- A content with a part changed. -/
theorem upd_sound {E : Env} : ∀ (p : List Stp) (c : AVal) (cs : List Value) (n : Nat) (o v c' : AVal) (vs : List Value), VO E c cs → (loc c p).eval = some (n, o) → V E v vs →
    (upd c p v).eval = some c' → n + vs.length ≤ cs.length ∧ VO E c' (splice cs n vs) ∧
      SameShape c c'
  | [], c, cs, n, o, v, c', vs, hc, hl, hv, h => by
    simp only [loc, eval_ok, Prod.mk.injEq] at hl
    obtain ⟨rfl, rfl⟩ := hl
    have main : ∀ (hnv : c.isVec = false), (Out.guard (v.celled && (c.size == v.size)) (.ok v)).eval = some c' → 0 + vs.length ≤ cs.length ∧ VO E c' (splice cs 0 vs) ∧
      SameShape c c' := by
      intro hnv hg
      obtain ⟨h1, h2⟩ := eval_guard.1 hg
      obtain rfl := eval_ok.1 h2
      simp only [Bool.and_eq_true, beq_iff_eq] at h1
      have e1 := (hc.to hnv).size
      have e2 := hv.size
      refine ⟨by omega, ?_, ?_⟩
      · rw [splice_all (by omega)]; exact VO.of hv
      · exact SameShape.of hnv hv.notVec
    cases c with
    | vec e t l => simp only [upd, eval_fail] at h
    | _ => exact main rfl (by simpa only [upd] using h)
  | st :: p, c, cs, n, o, v, c', vs, hc, hl, hv, h => by
    by_cases hst : st = .arr
    · subst hst
      have hl' : (loc c p).eval = some (n, o) := by cases c <;> simpa only [loc] using hl
      have h' : (upd c p v).eval = some c' := by cases c <;> simpa only [upd] using h
      exact upd_sound p c cs n o v c' vs hc hl' hv h'
    have left : ∀ (a b : AVal) (ca cb : List Value), cs = ca ++ cb → V E a ca → V E b cb → (loc a p).eval = some (n, o) → ((upd a p v).bind fun a' => Out.ok (mkPr a' b)).eval = some c' →
        n + vs.length ≤ cs.length ∧ VO E c' (splice cs n vs) ∧ c'.isVec = false := by
      intro a b ca cb e ha hb hl hh
      obtain ⟨a', h1, h2⟩ := eval_bind.1 hh
      obtain rfl := eval_ok.1 h2
      obtain ⟨h3, h4, h5⟩ := upd_sound p a ca n o v a' vs (VO.of ha) hl hv h1
      subst e
      refine ⟨by simp only [List.length_append]; omega, ?_, mkPr_notVec _ _⟩
      rw [splice_left h3]
      have hav : a'.isVec = false := h5.notVec ha.notVec
      exact VO.of (V_mkPr (h4.to hav) hb)
    have right : ∀ (a b : AVal) (ca cb : List Value), cs = ca ++ cb → ca.length = a.size → V E a ca → V E b cb → ((loc b p).bind fun (n, v) => Out.ok (a.size + n, v)).eval = some (n, o) →
        ((upd b p v).bind fun b' => Out.ok (mkPr a b')).eval = some c' → n + vs.length ≤ cs.length ∧ VO E c' (splice cs n vs) ∧ c'.isVec = false := by
      intro a b ca cb e hal ha hb hl hh
      obtain ⟨⟨n', v'⟩, h1, h2⟩ := eval_bind.1 hl
      simp only [eval_ok, Prod.mk.injEq] at h2
      obtain ⟨rfl, rfl⟩ := h2
      obtain ⟨b', h3, h4⟩ := eval_bind.1 hh
      obtain rfl := eval_ok.1 h4
      obtain ⟨h5, h6, h7⟩ := upd_sound p b cb n' v' v b' vs (VO.of hb) h1 hv h3
      subst e
      refine ⟨by simp only [List.length_append]; omega, ?_, mkPr_notVec _ _⟩
      rw [← hal, splice_right]
      have hav : b'.isVec = false := h7.notVec hb.notVec
      exact VO.of (V_mkPr ha (h6.to hav))
    have elem : ∀ (t : Ty) (l : List t.den) (i : Nat) (mk : List t.den → AVal), Chunks (Rep E t) cs l → (Out.chk (decide (i < l.length)) ((loc (.d t (nth t l i)) p).bind fun (n, v) => Out.ok (i * t.size + n, v))).eval = some (n, o) →
        (Out.chk (decide (i < l.length)) ((upd (.d t (nth t l i)) p v).bind fun
          | .d t' y => (Out.opt (castTy t' t y)).bind fun y => .ok (mk (l.set i y))
          | _ => .fail)).eval = some c' →
        n + vs.length ≤ cs.length ∧ ∃ l', c' = mk l' ∧ l'.length = l.length ∧ Chunks (Rep E t) (splice cs n vs) l' := by
      intro t l i mk hch hl hh
      obtain ⟨hi, hl⟩ := eval_chk.1 hl
      have hi : i < l.length := by simpa using hi
      obtain ⟨⟨n', v'⟩, h1, h2⟩ := eval_bind.1 hl
      simp only [eval_ok, Prod.mk.injEq] at h2
      obtain ⟨rfl, rfl⟩ := h2
      obtain ⟨_, hh⟩ := eval_chk.1 hh
      obtain ⟨w, h3, h4⟩ := eval_bind.1 hh
      obtain ⟨hp, hle⟩ := row_part hch hi
      rw [nth_eq hi] at h1 h3
      have hvp : V E (.d t l[i]) ((cs.drop (i * t.size)).take t.size) := by simpa only [V] using hp
      have hlen : ((cs.drop (i * t.size)).take t.size).length = t.size := hp.size
      obtain ⟨h5, h6, h7⟩ := upd_sound p _ _ n' v' v w vs (VO.of hvp) h1 hv h3
      cases w with
      | d t' y =>
        simp only at h4
        obtain ⟨y', h8, h9⟩ := eval_bind.1 h4
        obtain ⟨rfl, h8⟩ := castTy_some (eval_opt.1 h8)
        simp only at h8
        subst h8
        obtain rfl := eval_ok.1 h9
        refine ⟨by omega, _, rfl, by simp, ?_⟩
        have hy : Rep E t' (splice ((cs.drop (i * t'.size)).take t'.size) n' vs) y := by simpa only [VO, V] using h6
        have := Chunks.set (fun c x hx => Rep.size hx) hch i hi hy
        rw [splice_mid (by omega : i * t'.size + t'.size ≤ cs.length) (by omega)]
        rwa [hy.size] at this
      | _ => simp only [eval_fail] at h4
    cases c with
    | pr a b =>
      simp only [VO, V] at hc
      obtain ⟨ca, cb, e, ha, hb⟩ := hc
      cases st with
      | arr => exact absurd rfl hst
      | fst =>
        simp only [loc] at hl; simp only [upd] at h
        obtain ⟨r1, r2, r3⟩ := left a b ca cb e ha hb hl h
        exact ⟨r1, r2, SameShape.of rfl r3⟩
      | snd =>
        simp only [loc] at hl; simp only [upd] at h
        obtain ⟨r1, r2, r3⟩ := right a b ca cb e ha.size ha hb hl h
        exact ⟨r1, r2, SameShape.of rfl r3⟩
      | idx i => simp only [loc, eval_fail] at hl
    | d t x =>
      simp only [VO, V] at hc
      cases t with
      | pair ta tb =>
        simp only [Rep] at hc
        obtain ⟨ca, cb, e, ha, hb⟩ := hc
        have ha' : V E (.d ta x.1) ca := by simpa only [V] using ha
        have hb' : V E (.d tb x.2) cb := by simpa only [V] using hb
        cases st with
        | arr => exact absurd rfl hst
        | fst =>
          simp only [loc] at hl; simp only [upd] at h
          obtain ⟨r1, r2, r3⟩ := left _ _ ca cb e ha' hb' hl h
          exact ⟨r1, r2, SameShape.of rfl r3⟩
        | snd =>
          simp only [loc] at hl; simp only [upd] at h
          obtain ⟨r1, r2, r3⟩ := right (.d ta x.1) (.d tb x.2) ca cb e ha.size ha' hb' hl h
          exact ⟨r1, r2, SameShape.of rfl r3⟩
        | idx i => simp only [loc, eval_fail] at hl
      | arr m t =>
        simp only [Rep] at hc
        cases st with
        | arr => exact absurd rfl hst
        | idx i =>
          simp only [loc] at hl; simp only [upd] at h
          obtain ⟨r1, l', e, r2, r3⟩ := elem t x i (fun l => .d (.arr m t) l) hc.2 hl h
          subst e
          refine ⟨r1, ?_, trivial⟩
          simp only [VO, V, Rep]
          exact ⟨by rw [r2]; exact hc.1, r3⟩
        | fst => simp only [loc, eval_fail] at hl
        | snd => simp only [loc, eval_fail] at hl
      | _ => cases st <;> first | exact absurd rfl hst | (simp only [loc, eval_fail] at hl)
    | vec e t l =>
      simp only [VO] at hc
      cases st with
      | arr => exact absurd rfl hst
      | idx i =>
        simp only [loc] at hl; simp only [upd] at h
        obtain ⟨r1, l', e', r2, r3⟩ := elem t l i (fun l => .vec e t l) hc hl h
        subst e'
        exact ⟨r1, by simpa only [VO] using r3, rfl, rfl, r2⟩
      | fst => simp only [loc, eval_fail] at hl
      | snd => simp only [loc, eval_fail] at hl
    | _ => cases st <;> first | exact absurd rfl hst | (simp only [loc, eval_fail] at hl)

end Go.Ab
