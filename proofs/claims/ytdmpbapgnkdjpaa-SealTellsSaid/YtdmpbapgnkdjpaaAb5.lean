/-
  Soundness of the operations, first part: freezing many, data out of values, zero values, loads and stores.
-/
import Derived.Test.YtdmpbapgnkdjpaaAb4
namespace Go.Ab

/-! ### Freezing many -/

/-- Data may hang on the objects of the ids from now on. -/
def Frz (E E' : Env) (ids : List Id) : Prop :=
  ∀ id ∈ ids, ∀ v fr c, E.s id = some (.obj v fr c) → ∀ pl, E.β id = some pl → ∀ j x, E.w.cell? ⟨pl.b, j, none⟩ = some x →
    inVec c j → E'.has pl.b j x

theorem ent_freeze {s : AS} {id i : Id} {v : Nat} {fr : Bool} {c : AVal} (h : s.ent i = some (.obj v fr c)) : ∃ fr', (s.freeze id).ent i = some (.obj v fr' c) := by
  unfold AS.freeze
  by_cases hi : i = id
  · subst hi
    rw [h]
    exact ⟨true, ent_setEnt_self s i _ (by rw [h]; simp)⟩
  · split
    · exact ⟨fr, by rw [ent_setEnt_other s id i _ hi]; exact h⟩
    · exact ⟨fr, h⟩

theorem freezeAll_sound {C : Ctx} {β : Id → Option Pl} {a : Act} {w : World} : ∀ (ids : List Id) {g : Nat → Lab} {s : AS}, Inv C g β s a w →
    ∃ g', Inv C g' β (s.freezeAll ids) a w ∧ EnvLe (s.env w g β) ((s.freezeAll ids).env w g' β) ∧ Trans w w g g' ∧ Frz (s.env w g β) ((s.freezeAll ids).env w g' β) ids
  | [], g, s, h => ⟨g, h, EnvLe.refl _, Trans.refl _ _, fun _ hi => by cases hi⟩
  | id :: ids, g, s, h => by
    obtain ⟨g1, h1, e1, t1, f1⟩ := freeze_sound h id
    obtain ⟨g2, h2, e2, t2, f2⟩ := freezeAll_sound ids h1
    refine ⟨g2, h2, e1.trans e2, t1.trans t2, fun i hi v fr c hs pl hp j x hx hj => ?_⟩
    rcases List.mem_cons.1 hi with rfl | hi
    · exact e2.mem.has _ _ _ ⟨hx, f1 v fr c hs pl hp j x hx hj⟩
    · obtain ⟨fr', hs'⟩ := ent_freeze (id := id) hs
      exact f2 i hi v fr' c hs' pl hp j x hx hj

theorem slots_freeze (s : AS) (id : Id) : (s.freeze id).slots = s.slots := by unfold AS.freeze; split <;> simp
theorem slots_freezeAll : ∀ (ids : List Id) (s : AS), (s.freezeAll ids).slots = s.slots
  | [], _ => rfl
  | id :: ids, s => by rw [AS.freezeAll, slots_freezeAll ids, slots_freeze]
theorem ev_freezeAll (s : AS) (ids : List Id) (x : Operand) : (s.freezeAll ids).ev x = s.ev x := by
  cases x <;> simp [AS.ev, AS.slot, slots_freezeAll]
theorem news_freeze (s : AS) (id : Id) (q : Nat) : (s.freeze id).virgin q = s.virgin q := by
  unfold AS.freeze
  split
  · rename_i v b c h
    cases id with
    | old k => rfl
    | new i j =>
      simp only [AS.setEnt, AS.virgin]
      by_cases hq : i = q
      · subst hq
        simp only [AS.ent] at h
        by_cases hl : i < s.news.length
        · rw [List.getElem?_set_self hl, List.getElem?_eq_getElem hl]
          rw [List.getD_eq_getElem?_getD, List.getElem?_eq_getElem hl] at h ⊢
          simp only [Option.getD_some] at h ⊢
          cases hh : s.news[i] with
          | nil => rw [hh] at h; simp at h
          | cons x xs => cases j <;> simp [List.set]
        · rw [List.set_eq_of_length_le (by omega)]
      · rw [List.getElem?_set_ne hq]
  · rfl
theorem virgin_freezeAll : ∀ (ids : List Id) (s : AS) (q : Nat), (s.freezeAll ids).virgin q = s.virgin q
  | [], _, _ => rfl
  | id :: ids, s, q => by rw [AS.freezeAll, virgin_freezeAll ids, news_freeze]

/-! ### Rows -/

theorem loc_none {e : TypeId} {t : Ty} : ∀ {p : List Stp} {n : Nat} {v : AVal}, (loc (.vec e t []) p).eval = some (n, v) → n = 0 ∧ v = .vec e t []
  | [], n, v, h => by
    simp only [loc, eval_ok, Prod.mk.injEq] at h
    exact ⟨h.1.symm, h.2.symm⟩
  | .arr :: p, n, v, h => by
    simp only [loc] at h
    exact loc_none h
  | .idx i :: p, n, v, h => by simp [loc, eval_chk] at h
  | .fst :: p, n, v, h => by simp only [loc, eval_fail] at h
  | .snd :: p, n, v, h => by simp only [loc, eval_fail] at h

theorem row_sound {E : Env} {s : AS} (hs : E.s = s.ent) (ho : Objs E) {id : Id} {ver : Nat} {p : List Stp} {n : Nat} {t : Ty} {l : List t.den} (h : (s.row id ver p).eval = some (n, ⟨t, l⟩)) :
    ∃ fr c, E.s id = some (.obj ver fr c) ∧ ((E.β id = none ∧ l = [] ∧ n = 0) ∨ ∃ pl cur e, E.β id = some pl ∧ E.w.heap[pl.b]? = some (.cells cur e (0, 0)) ∧ n + l.length * t.size ≤ cur.size ∧
      Chunks (Rep E t) ((cur.toList.drop n).take (l.length * t.size)) l ∧
      ∀ j, j < n + l.length * t.size → inVec c j) := by
  unfold AS.row at h
  cases hob : s.obj id with
  | none => rw [hob] at h; simp only [eval_fail] at h
  | some r =>
    obtain ⟨v, fr, c⟩ := r
    rw [hob] at h
    obtain ⟨h1, h2⟩ := eval_guard.1 h
    obtain ⟨⟨n', v'⟩, h3, h4⟩ := eval_bind.1 h2
    have hv : v = ver := by simpa using h1
    subst hv
    have hent : E.s id = some (.obj v fr c) := by rw [hs]; exact obj_some hob
    refine ⟨fr, c, hent, ?_⟩
    have hO := ho id v fr c hent
    have harr : ∀ (pl : Pl) (cur : Array Value) (e : TypeId) (m : Nat) (t' : Ty) (l' : List t'.den) (n' : Nat), E.β id = some pl → E.w.heap[pl.b]? = some (.cells cur e (0, 0)) → c.isVec = false →
        V E (.d (.arr m t') l') ((cur.toList.drop n').take (AVal.d (.arr m t') l').size) → n' + (AVal.d (.arr m t') l').size ≤ cur.toList.length → (Out.ok (n', (⟨t', l'⟩ : (t : Ty) × List t.den))).eval = some (n, ⟨t, l⟩) →
        ∃ pl cur e, E.β id = some pl ∧ E.w.heap[pl.b]? = some (.cells cur e (0, 0)) ∧ n + l.length * t.size ≤ cur.size ∧ Chunks (Rep E t) ((cur.toList.drop n).take (l.length * t.size)) l ∧
          ∀ j, j < n + l.length * t.size → inVec c j := by
      intro pl cur e m t' l' n' hp hh hn hv hl he
      simp only [eval_ok, Prod.mk.injEq] at he
      obtain ⟨rfl, he⟩ := he
      obtain ⟨rfl, he⟩ := he
      simp only [V, Rep] at hv
      obtain ⟨hv1, hv2⟩ := hv
      have hsz : ∀ (t : Ty) (l : List t.den), l.length = m → (AVal.d (.arr m t) l).size = l.length * t.size := fun t l hh => by simp [AVal.size, Ty.size, hh]
      rw [hsz _ _ hv1] at hv2 hl
      exact ⟨pl, cur, e, hp, hh, by simpa using hl, hv2, fun j _ => inVec.of hn j⟩
    by_cases hn : c.isVec = false
    · right
      obtain ⟨pl, cur, e, hp, hh, hg, hV⟩ := hO.box hn
      rcases loc_sound p c cur.toList n' v' (VO.of hV) h3 with ⟨rfl, rfl⟩ | ⟨hV', hle⟩
      · cases v' with
        | d t' x => cases t' with
          | arr m t' =>
            refine harr pl cur e m t' x 0 hp hh hn ?_ ?_ (by simpa only using h4)
            · have := hV.size
              rw [List.drop_zero, List.take_of_length_le (by omega)]
              exact hV
            · have := hV.size; omega
          | _ => simp only [eval_fail] at h4
        | vec => simp [AVal.isVec] at hn
        | _ => simp only [eval_fail] at h4
      · cases v' with
        | d t' x => cases t' with
          | arr m t' => exact harr pl cur e m t' x n' hp hh hn hV' hle (by simpa only using h4)
          | _ => simp only [eval_fail] at h4
        | vec => simp only [V] at hV'
        | _ => simp only [eval_fail] at h4
    · cases c <;> first | (exact absurd rfl hn) | skip
      rename_i e t0 l0
      obtain ⟨hz, hO⟩ := hO
      cases hp : E.β id with
      | none =>
        rw [hp] at hO
        have hl0 : l0 = [] := hO
        subst hl0
        obtain ⟨rfl, rfl⟩ := loc_none h3
        simp only [eval_ok, Prod.mk.injEq] at h4
        obtain ⟨rfl, he⟩ := h4
        obtain ⟨rfl, he⟩ := he
        exact .inl ⟨rfl, rfl, rfl⟩
      | some pl =>
        rw [hp] at hO
        obtain ⟨cur, k, q1, q2, q3, q4, q5, q6, q7, q8⟩ := hO
        right
        have hlen : (cur.toList.take (l0.length * t0.size)).length = l0.length * t0.size := Chunks.length (fun c x hx => Rep.size hx) q8
        have hsize : l0.length * t0.size ≤ cur.size := by rw [q2]; exact Nat.mul_le_mul_right _ q3
        rcases loc_sound (E := E) p (.vec e t0 l0) (cur.toList.take (l0.length * t0.size)) n' v' q8 h3 with ⟨rfl, rfl⟩ | ⟨hV', hle⟩
        · simp only [eval_ok, Prod.mk.injEq] at h4
          obtain ⟨rfl, he⟩ := h4
          obtain ⟨rfl, he⟩ := he
          exact ⟨pl, cur, e, rfl, q1, by omega, by simpa using q8, fun j hj => by show j < l.length * t.size; omega⟩
        · have hle' := hle
          rw [hlen] at hle'
          rw [List.drop_take, List.take_take, Nat.min_eq_left (by omega)] at hV'
          cases v' with
          | d t' x => cases t' with
            | arr m t' =>
              simp only [eval_ok, Prod.mk.injEq] at h4
              obtain ⟨rfl, he⟩ := h4
              obtain ⟨rfl, he⟩ := he
              simp only [V, Rep] at hV'
              obtain ⟨hv1, hv2⟩ := hV'
              have hsz : ∀ (t : Ty) (l : List t.den), l.length = m → (AVal.d (.arr m t) l).size = l.length * t.size := fun t l hh => by simp [AVal.size, Ty.size, hh]
              rw [hsz _ _ hv1] at hv2 hle'
              refine ⟨pl, cur, e, rfl, q1, by omega, hv2, fun j hj => ?_⟩
              show j < l0.length * t0.size
              omega
            | _ => simp only [eval_fail] at h4
          | vec => simp only [V] at hV'
          | _ => simp only [eval_fail] at h4

theorem chunks_cut {E : Env} {t : Ty} {cs : List Value} {l : List t.den} (h : Chunks (Rep E t) cs l) (i len : Nat) : Chunks (Rep E t) ((cs.drop (i * t.size)).take (len * t.size)) (cut l i len) :=
  Chunks.take (fun _ _ hx => hx.size) len (Chunks.drop (fun _ _ hx => hx.size) i h)

theorem cut_length {α : Type} {l : List α} {i len : Nat} (h : i + len ≤ l.length) : (cut l i len).length = len := by
  simp [cut]; omega

/-! ### Data out of values -/

theorem toTy_rep {E E' : Env} {s : AS} (hs : E.s = s.ent) (ho : Objs E) (he : EnvLe E E') : ∀ (v : AVal) (t : Ty) (x : t.den) (cs : List Value), V E v cs → (s.toTy t v).eval = some x → Frz E E' v.shared → Rep E' t cs x
  | .d t' x', t, x, cs, hv, h, _ => by
    have h' : (Out.opt (castTy t' t x')).eval = some x := by cases t <;> simpa only [AS.toTy] using h
    obtain ⟨rfl, h'⟩ := castTy_some (eval_opt.1 h')
    simp only at h'
    subst h'
    simp only [V] at hv
    exact hv.mono he.mem
  | .nils, .slice t, x, cs, hv, h, _ => by
    simp only [AS.toTy, eval_ok] at h
    subst h
    simp only [V] at hv
    simp only [Rep]
    exact ⟨none, 0, [], by simpa using hv, by simp, by simp, fun i v hh => by simp at hh, rfl⟩
  | .sref id ver p c i len, .slice t, x, cs, hv, h, hf => by
    simp only [AS.toTy] at h
    obtain ⟨⟨n, t', l⟩, h1, h2⟩ := eval_bind.1 h
    obtain ⟨h3, h4⟩ := eval_chk.1 h2
    obtain ⟨hty, h5⟩ := castTy_some (eval_opt.1 h4)
    simp only [Ty.slice.injEq] at hty
    have hty' : t' = t := hty
    subst hty'
    simp only at h5
    subst h5
    simp only [decide_eq_true_eq] at h3
    obtain ⟨hc, hlen⟩ := h3
    obtain ⟨fr, c0, hent, hrow⟩ := row_sound hs ho h1
    simp only [V] at hv
    obtain ⟨a, cap, hcs, hle, hsome, hb, hcur⟩ := hv
    have hcur := hcur ⟨fr, c0, hent⟩
    have hxl : (cut l i len).length = len := cut_length hlen
    simp only [Rep]
    refine ⟨a, cap, ?_⟩
    rcases hrow with ⟨hp, hl, _⟩ | ⟨pl, cur, e, hp, hh, hsz, hch, hbound⟩
    · rw [hp] at hcur
      simp only at hcur
      obtain ⟨rfl, rfl, rfl⟩ := hcur
      refine ⟨[], ?_, by omega, by omega, fun _ _ hh => by simp at hh, ?_⟩
      · rw [hxl]; exact hcs
      · have : cut l i 0 = [] := by simp [cut]
        rw [this]; rfl
    · rw [hp] at hcur
      simp only at hcur
      refine ⟨((((cur.toList.drop n).take (l.length * t'.size)).drop (i * t'.size)).take (len * t'.size)), by rw [hxl]; exact hcs, by omega, by rw [hxl]; exact hsome, ?_, (chunks_cut hch i len).mono fun _ _ hx => hx.mono he.mem⟩
      have hmul : (i + len) * t'.size ≤ l.length * t'.size := Nat.mul_le_mul_right _ hlen
      rw [Nat.add_mul] at hmul
      rw [part_mid _ _ _ _ _ hmul]
      intro j v hj
      rw [List.getElem?_take] at hj
      split at hj
      · rename_i hjl
        rw [List.getElem?_drop, hc] at hj
        have hlp : 0 < len := by
          rcases Nat.eq_zero_or_pos len with h0 | h0
          · subst h0; simp at hjl
          · exact h0
        refine ⟨pl.b, c, hcur.1 (.inl hlp), ?_⟩
        refine hf id (by simp [AVal.shared]) ver fr c0 hent pl hp (c + j) v ?_ (hbound _ (by omega))
        rw [cell_of_row E.w pl.b (c + j) cur e (0, 0) hh]
        simpa using hj
      · cases hj
  | .pr a b, .pair ta tb, x, cs, hv, h, hf => by
    simp only [AS.toTy] at h
    obtain ⟨x1, h1, h2⟩ := eval_bind.1 h
    obtain ⟨x2, h3, h4⟩ := eval_bind.1 h2
    obtain rfl := eval_ok.1 h4
    simp only [V] at hv
    obtain ⟨ca, cb, e, ha, hb⟩ := hv
    simp only [Rep]
    exact ⟨ca, cb, e, toTy_rep hs ho he a ta x1 ca ha h1 (fun i hi => hf i (by simp [AVal.shared, hi])), toTy_rep hs ho he b tb x2 cb hb h3 (fun i hi => hf i (by simp [AVal.shared, hi]))⟩
  | .nils, .int _, _, _, _, h, _ | .nils, .bool, _, _, _, h, _ | .nils, .str, _, _, _, h, _ | .nils, .unit, _, _, _, h, _ | .nils, .pair _ _, _, _, _, h, _ | .nils, .arr _ _, _, _, _, h, _ => by simp only [AS.toTy, eval_fail] at h
  | .sref .., .int _, _, _, _, h, _ | .sref .., .bool, _, _, _, h, _ | .sref .., .str, _, _, _, h, _ | .sref .., .unit, _, _, _, h, _ | .sref .., .pair _ _, _, _, _, h, _ | .sref .., .arr _ _, _, _, _, h, _ => by simp only [AS.toTy, eval_fail] at h
  | .pr _ _, .int _, _, _, _, h, _ | .pr _ _, .bool, _, _, _, h, _ | .pr _ _, .str, _, _, _, h, _ | .pr _ _, .unit, _, _, _, h, _ | .pr _ _, .slice _, _, _, _, h, _ | .pr _ _, .arr _ _, _, _, _, h, _ => by simp only [AS.toTy, eval_fail] at h
  | .undef, t, _, _, _, h, _ => by cases t <;> simp only [AS.toTy, eval_fail] at h
  | .gone, t, _, _, _, h, _ => by cases t <;> simp only [AS.toTy, eval_fail] at h
  | .nilp, t, _, _, _, h, _ => by cases t <;> simp only [AS.toTy, eval_fail] at h
  | .nilf, t, _, _, _, h, _ => by cases t <;> simp only [AS.toTy, eval_fail] at h
  | .nilm, t, _, _, _, h, _ => by cases t <;> simp only [AS.toTy, eval_fail] at h
  | .sb _, t, _, _, _, h, _ => by cases t <;> simp only [AS.toTy, eval_fail] at h
  | .ptr .., t, _, _, _, h, _ => by cases t <;> simp only [AS.toTy, eval_fail] at h
  | .rptr .., t, _, _, _, h, _ => by cases t <;> simp only [AS.toTy, eval_fail] at h
  | .fn .., t, _, _, _, h, _ => by cases t <;> simp only [AS.toTy, eval_fail] at h
  | .cons .., t, _, _, _, h, _ => by cases t <;> simp only [AS.toTy, eval_fail] at h
  | .nil, t, _, _, _, h, _ => by cases t <;> simp only [AS.toTy, eval_fail] at h
  | .vec .., t, _, _, _, h, _ => by cases t <;> simp only [AS.toTy, eval_fail] at h

theorem toTy_celled {s : AS} {t : Ty} {v : AVal} {x : t.den} (h : (s.toTy t v).eval = some x) : v.celled = true := by
  cases v <;> first
    | rfl
    | (cases t <;> simp only [AS.toTy, eval_fail] at h)

theorem toTy_agg {s : AS} {t : Ty} {v : AVal} {x : t.den} (h : (s.toTy t v).eval = some x) : v.agg = t.agg := by
  cases v with
  | d t' x' =>
    have h' : (Out.opt (castTy t' t x')).eval = some x := by cases t <;> simpa only [AS.toTy] using h
    obtain ⟨rfl, _⟩ := castTy_some (eval_opt.1 h')
    rfl
  | _ => cases t <;> first | rfl | (simp only [AS.toTy, eval_fail] at h)

/-- A value in a slot, as data. -/
theorem toTy_sound {C : Ctx} {g : Nat → Lab} {β : Id → Option Pl} {s : AS} {a : Act} {w : World} (h : Inv C g β s a w) {v : AVal} {y : Value} (hv : VS (s.env w g β) v y) {t : Ty} {x : t.den} (ht : (s.toTy t v).eval = some x) :
    ∃ g', Inv C g' β (s.freezeAll v.shared) a w ∧ EnvLe (s.env w g β) ((s.freezeAll v.shared).env w g' β) ∧ Trans w w g g' ∧
      ∃ cs, Rep ((s.freezeAll v.shared).env w g' β) t cs x ∧ OfCells t.agg cs y := by
  obtain ⟨g', h1, h2, h3, h4⟩ := freezeAll_sound v.shared h
  obtain ⟨cs, hV, hO⟩ := hv.celled (toTy_celled ht)
  exact ⟨g', h1, h2, h3, cs, toTy_rep rfl h.objs h2 v t x cs hV ht h4, by rw [← toTy_agg ht]; exact hO⟩

/-! ### Zero values -/

theorem eatL_sound {α : Type} {R : List Value → α → Prop} {f : α → List Value → Option (List Value)} (hf : ∀ x cs r, f x cs = some r → ∃ c, cs = c ++ r ∧ R c x) :
    ∀ (l : List α) (cs r : List Value), eatL f l cs = some r → ∃ c, cs = c ++ r ∧ Chunks R c l
  | [], cs, r, h => by
    simp only [eatL, Option.some.injEq] at h
    exact ⟨[], by simp [h], rfl⟩
  | x :: xs, cs, r, h => by
    simp only [eatL] at h
    cases hx : f x cs with
    | none => rw [hx] at h; cases h
    | some r1 =>
      rw [hx] at h
      obtain ⟨c1, e1, h1⟩ := hf x cs r1 hx
      obtain ⟨c2, e2, h2⟩ := eatL_sound hf xs r1 r h
      exact ⟨c1 ++ c2, by rw [e1, e2, List.append_assoc], c1, c2, rfl, h1, h2⟩

theorem eatT_sound (E : Env) : ∀ (t : Ty) (x : t.den) (cs r : List Value), eatT t x cs = some r → ∃ c, cs = c ++ r ∧ Rep E t c x
  | .int k, x, cs, r, h => by
    cases cs with
    | nil => simp [eatT] at h
    | cons v r' =>
      cases v <;> simp only [eatT] at h <;> try (cases h; done)
      rename_i k' n
      split at h
      · rename_i h1 h2
        simp at h1 h2 h
        subst h1 h2 h
        exact ⟨[.int k n], rfl, by simp [Rep]⟩
      · cases h
  | .bool, x, cs, r, h => by
    cases cs with
    | nil => simp [eatT] at h
    | cons v r' =>
      cases v <;> simp only [eatT] at h <;> try (cases h; done)
      rename_i b
      split at h
      · rename_i h1
        simp at h1 h
        subst h1 h
        exact ⟨[.bool b], rfl, by simp [Rep]⟩
      · cases h
  | .str, x, cs, r, h => by
    cases cs with
    | nil => simp [eatT] at h
    | cons v r' =>
      cases v <;> simp only [eatT] at h <;> try (cases h; done)
      rename_i b
      split at h
      · rename_i h1
        simp at h1 h
        subst h1 h
        exact ⟨[.string b], rfl, by simp [Rep]⟩
      · cases h
  | .slice t, x, cs, r, h => by
    cases x with
    | cons _ _ => simp [eatT] at h
    | nil =>
      cases cs with
      | nil => simp [eatT] at h
      | cons v r' =>
        unfold eatT at h
        split at h <;> try (cases h; done)
        all_goals simp_all
        exact ⟨[.slice none 0 0], rfl, by simp only [Rep]; exact ⟨none, 0, [], rfl, by simp, by simp, fun i v hh => by simp at hh, rfl⟩⟩
  | .unit, x, cs, r, h => by
    simp only [eatT, Option.some.injEq] at h
    exact ⟨[], by simp [h], by simp [Rep]⟩
  | .pair a b, x, cs, r, h => by
    simp only [eatT] at h
    cases hx : eatT a x.1 cs with
    | none => rw [hx] at h; cases h
    | some r1 =>
      rw [hx] at h
      obtain ⟨c1, e1, h1⟩ := eatT_sound E a x.1 cs r1 hx
      obtain ⟨c2, e2, h2⟩ := eatT_sound E b x.2 r1 r h
      exact ⟨c1 ++ c2, by rw [e1, e2, List.append_assoc], by simp only [Rep]; exact ⟨c1, c2, rfl, h1, h2⟩⟩
  | .arr n t, x, cs, r, h => by
    simp only [eatT] at h
    split at h
    · rename_i h1
      obtain ⟨c, e, hc⟩ := eatL_sound (fun x cs r hh => eatT_sound E t x cs r hh) _ _ _ h
      exact ⟨c, e, by simp only [Rep]; exact ⟨by simpa using h1, hc⟩⟩
    · cases h

theorem eatA_sound (E : Env) : ∀ (a : AVal) (cs r : List Value), eatA a cs = some r → ∃ c, cs = c ++ r ∧ V E a c := by
  intro a
  induction a with
  | d t x =>
    intro cs r h
    simp only [eatA] at h
    obtain ⟨c, e, hc⟩ := eatT_sound E t x cs r h
    exact ⟨c, e, by simpa only [V] using hc⟩
  | pr a b iha ihb =>
    intro cs r h
    simp only [eatA] at h
    cases hx : eatA a cs with
    | none => rw [hx] at h; cases h
    | some r1 =>
      rw [hx] at h
      obtain ⟨c1, e1, h1⟩ := iha cs r1 hx
      obtain ⟨c2, e2, h2⟩ := ihb r1 r h
      exact ⟨c1 ++ c2, by rw [e1, e2, List.append_assoc], by simp only [V]; exact ⟨c1, c2, rfl, h1, h2⟩⟩
  | nils => intro cs r h; unfold eatA at h; split at h <;> simp_all <;> exact ⟨[.slice none 0 0], rfl, by simp [V]⟩
  | nilp => intro cs r h; unfold eatA at h; split at h <;> simp_all <;> exact ⟨[.pointer none], rfl, by simp [V]⟩
  | nilf => intro cs r h; unfold eatA at h; split at h <;> simp_all <;> exact ⟨[.nilFunc], rfl, by simp [V]⟩
  | nilm => intro cs r h; unfold eatA at h; split at h <;> simp_all <;> exact ⟨[.map none], rfl, by simp [V]⟩
  | _ => intro cs r h; simp [eatA] at h

theorem zchk_sound {P : Program} {T : TypeId} {z : AVal} (h : zchk P T z = true) (E : Env) :
    ∃ i zv, P.info? T = some i ∧ i.zero = some zv ∧ V E z zv.cells.toList ∧ OfCells z.agg zv.cells.toList zv := by
  unfold zchk at h
  split at h <;> try (cases h; done)
  rename_i i hi
  split at h <;> try (cases h; done)
  rename_i zv hz
  simp only [Bool.and_eq_true, beq_iff_eq] at h
  obtain ⟨h1, h2⟩ := h
  split at h1 <;> try (cases h1; done)
  rename_i he
  obtain ⟨c, e, hV⟩ := eatA_sound E z _ _ he
  rw [List.append_nil] at e
  rw [← e] at hV
  refine ⟨i, zv, hi, hz, hV, ?_⟩
  cases hagg : z.agg with
  | true =>
    rw [hagg] at h2
    cases zv <;> simp [isAggV] at h2
    simp [OfCells, Value.cells]
  | false =>
    rw [hagg] at h2
    cases zv <;> first | (simp [isAggV] at h2; done) | simp [OfCells, Value.cells]

end Go.Ab
