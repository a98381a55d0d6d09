/-
  Soundness of the operations, sixth part: places and parts; functions as values; lengths; conversions.
-/
import Derived.Test.YtdmpbapgnkdjpaaAb9
namespace Go.Ab

section
variable {P : Program} {C : Ctx} {g : Nat → Lab} {β : Id → Option Pl} {s : AS} {a : Act} {w : World} {o : Oper}

theorem indexAddr_runs (h : Inv C g β s a w) {T : TypeId} {x y : Operand} (ho : o.op = .indexAddr T x y) {i : Int} (hi : (asInt (s.ev y)).eval = some i) {v : AVal} (he : (indexAddrA P s T (s.ev x) i).eval = some v) : Runs P o a w (Sts C (s.put o.dst v)) := by
  have hx := h.ev x
  obtain ⟨k, hy⟩ := asInt_of (h.ev y) hi
  have fin : ∀ z, (Instr.indexAt T (a.eval x) (a.eval y)).run P w = .ok z w → VS (s.env w g β) v z → Runs P o a w (Sts C (s.put o.dst v)) := by
    intro z h1 h2
    exact h.value h2 (exec_value (f := Instr.indexAt T (a.eval x) (a.eval y)) (by simp only [execOp, ho]) h1)
  have sl : ∀ (e : TypeId) (z : Nat) (ad : Addr) (len cap : Nat), P.underlying T = some (.slice e) → P.cellsOf e = z → 0 < z → a.eval x = .slice (some ad) len cap → 0 ≤ i ∧ i < (len : Int) →
      (Instr.indexAt T (a.eval x) (a.eval y)).run P w = .ok (.pointer (some (ad.add (i.toNat * z)))) w := by
    intro e z ad len cap hT hz hpos hv hb
    rw [hv, hy]
    simp [Instr.indexAt, asIntOf, run_underlying hT, hb, run_sizeOf' hz hpos]
  have ar : ∀ (e : TypeId) (z n : Nat) (ad : Addr), P.underlying T = some (.array n e) → P.cellsOf e = z → 0 < z → a.eval x = .pointer (some ad) → 0 ≤ i ∧ i < (n : Int) →
      (Instr.indexAt T (a.eval x) (a.eval y)).run P w = .ok (.pointer (some (ad.add (i.toNat * z)))) w := by
    intro e z n ad hT hz hpos hv hb
    rw [hv, hy]
    simp [Instr.indexAt, Instr.sureAddr, asIntOf, run_underlying hT, hb, run_sizeOf' hz hpos]
  have elt : ∀ (t : Ty) (z : Nat) (bb off : Nat) (vs : List Value) (l : List t.den), z = t.size → RowAt (s.env w g β) (some ⟨bb, off, none⟩) vs → Chunks (Rep (s.env w g β) t) vs l → 0 ≤ i ∧ i < (l.length : Int) →
      VS (s.env w g β) (.rptr t (nth t l i.toNat)) (.pointer (some ⟨bb, off + i.toNat * z, none⟩)) := by
    intro t z bb off vs l hz hr hc hb
    subst hz
    have hlt : i.toNat < l.length := by omega
    rw [nth_eq hlt]
    obtain ⟨hp, _⟩ := row_part hc hlt
    refine ⟨_, ?_, rfl⟩
    simp only [V]
    refine ⟨_, _, _, rfl, fun j v hj => ?_, hp⟩
    rw [List.getElem?_take] at hj
    split at hj
    · rw [List.getElem?_drop] at hj
      obtain ⟨b', o', e, hh⟩ := hr _ v hj
      simp only [Option.some.injEq, Addr.mk.injEq, and_true] at e
      obtain ⟨rfl, rfl⟩ := e
      exact ⟨_, _, rfl, by rw [Nat.add_assoc]; exact hh⟩
    · cases hj
  unfold indexAddrA at he
  split at he
  · rename_i t l hl
    rw [hl] at hx
    obtain ⟨ad, cap, vs, hv, hlc, hsome, hrow, hch⟩ := slice_of hx
    obtain ⟨h1, h2⟩ := eval_guard.1 he
    obtain ⟨h3, h4⟩ := eval_chk.1 h2
    obtain rfl := eval_ok.1 h4
    simp only [decide_eq_true_eq] at h3
    split at h1 <;> try (cases h1; done)
    rename_i z hz1 hz2
    obtain ⟨e, hT, hz, hpos⟩ := elemSize_slice hz1 hz2
    have hzt : z = t.size := by simpa using h1
    have hlen := Chunks.length (fun c x hx => Rep.size hx) hch
    have hlt : i.toNat < l.length := by omega
    have h0 : 0 < vs.length := by rw [hlen]; exact Nat.mul_pos (by omega) (by omega)
    obtain ⟨bb, off, e1, _⟩ := hrow 0 vs[0] (by simp [h0])
    subst e1
    have := sl e z _ _ cap hT hz hpos hv h3
    rw [Addr.add_lit] at this
    exact fin _ this (elt t z bb off vs l hzt hrow hch h3)
  · rename_i n t l hl
    rw [hl] at hx
    obtain ⟨bb, off, vs, hv, hrow, hR⟩ := rptr_of hx
    obtain ⟨h1, h2⟩ := eval_guard.1 he
    obtain ⟨h3, h4⟩ := eval_chk.1 h2
    obtain rfl := eval_ok.1 h4
    simp only [decide_eq_true_eq] at h3
    split at h1 <;> try (cases h1; done)
    rename_i z m hz1 hz2
    obtain ⟨e, hT, hz, hpos⟩ := elemSize_arr hz1 hz2
    simp only [Bool.and_eq_true, beq_iff_eq] at h1
    obtain ⟨hzt, rfl⟩ := h1
    simp only [Rep] at hR
    have := ar e z m _ hT hz hpos hv h3
    rw [Addr.add_lit] at this
    exact fin _ this (elt t z bb off vs l hzt hrow hR.2 (by rw [hR.1]; exact h3))
  · rename_i id ver p c j len hl
    rw [hl] at hx
    obtain ⟨ad, cap, hv, hlc, hsome, hbnd, hcur⟩ := sref_of hx
    obtain ⟨r, hr1, he⟩ := eval_bind.1 he
    obtain ⟨h1, h2⟩ := eval_guard.1 he
    obtain ⟨h3, h4⟩ := eval_chk.1 h2
    obtain rfl := eval_ok.1 h4
    simp only [decide_eq_true_eq] at h3
    split at h1 <;> try (cases h1; done)
    rename_i z hz1 hz2
    obtain ⟨e, hT, hz, hpos⟩ := elemSize_slice hz1 hz2
    have hzt : z = r.2.1.size := by simpa using h1
    have hs := hsome (by omega)
    obtain ⟨ad', rfl⟩ := Option.isSome_iff_exists.1 hs
    refine fin _ (sl e z ad' len cap hT hz hpos hv h3) ⟨_, ?_, rfl⟩
    simp only [V]
    refine ⟨_, rfl, hbnd, fun hc => ?_⟩
    have hcur := hcur hc
    cases hp : β id with
    | none =>
      have hp' : (s.env w g β).β id = none := hp
      rw [hp'] at hcur
      exact absurd hcur.1 (by simp)
    | some pl =>
      have hp' : (s.env w g β).β id = some pl := hp
      rw [hp'] at hcur
      have e1 := hcur.1 (.inl (by omega))
      simp only [Option.some.injEq] at e1
      exact ⟨pl, hp, by rw [e1, Addr.add_lit, hzt]⟩
  · rename_i id ver p n hl
    rw [hl] at hx
    obtain ⟨ad, hv, hbnd, hcur⟩ := ptr_of hx
    obtain ⟨h1, h2⟩ := eval_guard.1 he
    obtain ⟨h3, h4⟩ := eval_chk.1 h2
    obtain rfl := eval_ok.1 h4
    simp only [decide_eq_true_eq] at h3
    split at h1 <;> try (cases h1; done)
    rename_i z m hz1 hz2
    obtain ⟨e, hT, hz, hpos⟩ := elemSize_arr hz1 hz2
    rw [hz2, Option.getD_some] at h3
    refine fin _ (ar e z m ad hT hz hpos hv h3) ⟨_, ?_, rfl⟩
    simp only [V]
    refine ⟨_, rfl, hbnd, fun hc => ?_⟩
    obtain ⟨pl, hp, had⟩ := hcur hc
    exact ⟨pl, hp, by rw [had, Addr.add_lit, hz1, Option.getD_some]⟩
  · simp only [eval_fail] at he

theorem fieldInfo_sound {T : TypeId} {f off : Nat} {ft : TypeId} (h : fieldInfo P T f = some (off, ft)) : ∃ fs fd, P.underlying T = some (.struct fs) ∧ fs[f]? = some fd ∧ fd.offset = off ∧ fd.type = ft := by
  unfold fieldInfo at h
  split at h
  · rename_i fs hT
    split at h
    · rename_i fd hf
      simp only [Option.some.injEq, Prod.mk.injEq] at h
      exact ⟨fs, fd, hT, hf, h.1, h.2⟩
    · cases h
  · cases h

theorem partOf_sound {E : Env} : ∀ (x : AVal) (f off : Nat) (v : AVal) (cs : List Value), V E x cs → partOf x f = some (off, v) → V E v ((cs.drop off).take v.size) ∧ off + v.size ≤ cs.length := by
  intro x f
  induction f generalizing x with
  | zero =>
    intro off v cs hx h
    cases x with
    | d t y =>
      cases t <;> simp only [partOf, reduceCtorEq] at h
      rename_i ta tb
      simp only [Option.some.injEq, Prod.mk.injEq] at h
      obtain ⟨rfl, rfl⟩ := h
      simp only [V, Rep] at hx ⊢
      obtain ⟨ca, cb, rfl, ha, hb⟩ := hx
      have := ha.size
      simp only [AVal.size, List.drop_zero, List.length_append, Nat.zero_add]
      rw [List.take_left' this]
      exact ⟨ha, by omega⟩
    | pr b c =>
      simp only [partOf, Option.some.injEq, Prod.mk.injEq] at h
      obtain ⟨rfl, rfl⟩ := h
      simp only [V] at hx
      obtain ⟨ca, cb, rfl, ha, hb⟩ := hx
      have := ha.size
      simp only [List.drop_zero, List.length_append, Nat.zero_add]
      rw [List.take_left' this]
      exact ⟨ha, by omega⟩
    | _ => simp only [partOf, reduceCtorEq] at h
  | succ f ih =>
    intro off v cs hx h
    have second : ∀ (ca cb : List Value) (n : Nat) (b : AVal), cs = ca ++ cb → ca.length = n → V E b cb → (match partOf b f with | some (o, v) => some (n + o, v) | none => none) = some (off, v) → V E v ((cs.drop off).take v.size) ∧ off + v.size ≤ cs.length := by
      intro ca cb n b e hl hb hh
      cases hp : partOf b f with
      | none => rw [hp] at hh; cases hh
      | some r =>
        obtain ⟨o', v'⟩ := r
        rw [hp] at hh
        simp only [Option.some.injEq, Prod.mk.injEq] at hh
        obtain ⟨rfl, rfl⟩ := hh
        obtain ⟨h1, h2⟩ := ih b o' v' cb hb hp
        subst e
        rw [← hl, List.drop_append, List.drop_of_length_le (by omega), List.nil_append, Nat.add_sub_cancel_left]
        exact ⟨h1, by simp only [List.length_append]; omega⟩
    cases x with
    | d t y =>
      cases t with
      | pair ta tb =>
        simp only [partOf] at h
        simp only [V, Rep] at hx
        obtain ⟨ca, cb, e, ha, hb⟩ := hx
        exact second ca cb ta.size (.d tb y.2) e ha.size (by simpa only [V] using hb) h
      | _ => simp only [partOf, reduceCtorEq] at h
    | pr b c =>
      simp only [partOf] at h
      simp only [V] at hx
      obtain ⟨ca, cb, e, ha, hb⟩ := hx
      exact second ca cb b.size c e ha.size hb h
    | _ => simp only [partOf, reduceCtorEq] at h

theorem fieldAddr_runs (h : Inv C g β s a w) {T : TypeId} {x : Operand} {f : Nat} (ho : o.op = .fieldAddr T x f) {v : AVal} (he : (fieldAddrA P T (s.ev x) f).eval = some v) : Runs P o a w (Sts C (s.put o.dst v)) := by
  have hx := h.ev x
  unfold fieldAddrA at he
  split at he
  · rename_i off ft hf
    obtain ⟨fs, fd, hT, hfd, rfl, rfl⟩ := fieldInfo_sound hf
    obtain ⟨h1, h2⟩ := eval_guard.1 he
    have hz : P.cellsOf fd.type ≠ 0 := by simpa using h1
    have run : ∀ bb n, a.eval x = .pointer (some ⟨bb, n, none⟩) → (Instr.fieldAt T (a.eval x) f).run P w = .ok (.pointer (some ⟨bb, n + fd.offset, none⟩)) w := by
      intro bb n hy
      rw [hy]
      simp [Instr.fieldAt, run_underlying hT, hfd, Instr.sureAddr, fieldPlace, run_sizeOf' (P := P) (e := fd.type) rfl (by omega), hz, Addr.add_lit]
    have runS : ∀ ad, a.eval x = .pointer (some ad) → (Instr.fieldAt T (a.eval x) f).run P w = .ok (.pointer (some (ad.add fd.offset))) w := by
      intro ad hy
      rw [hy]
      simp [Instr.fieldAt, run_underlying hT, hfd, Instr.sureAddr, fieldPlace, run_sizeOf' (P := P) (e := fd.type) rfl (by omega), hz]
    have fin : ∀ z, (Instr.fieldAt T (a.eval x) f).run P w = .ok z w → VS (s.env w g β) v z → Runs P o a w (Sts C (s.put o.dst v)) := by
      intro z h1 h2
      exact h.value h2 (exec_value (f := Instr.fieldAt T (a.eval x) f) (by simp only [execOp, ho]) h1)
    split at h2
    · rename_i id ver p n hl
      rw [hl] at hx
      obtain rfl := eval_ok.1 h2
      obtain ⟨ad, hy, hbnd, hcur⟩ := ptr_of hx
      refine fin _ (runS ad hy) ⟨_, ?_, rfl⟩
      simp only [V]
      refine ⟨_, rfl, hbnd, fun hc => ?_⟩
      obtain ⟨pl, hp, had⟩ := hcur hc
      exact ⟨pl, hp, by rw [had, Addr.add_lit]⟩
    · rename_i t y hl
      rw [hl] at hx
      obtain ⟨bb, off, vs, hy, hrow, hR⟩ := rptr_of hx
      split at h2
      · rename_i o' t' y' hp
        obtain ⟨h3, h4⟩ := eval_guard.1 h2
        obtain rfl := eval_ok.1 h4
        have h3 : fd.offset = o' := by simpa using h3
        obtain ⟨hV, hle⟩ := partOf_sound (.d t y) f o' (.d t' y') vs (by simpa only [V] using hR) hp
        refine fin _ (run bb off hy) ⟨_, ?_, rfl⟩
        simp only [V] at hV ⊢
        refine ⟨_, _, _, rfl, fun j u hj => ?_, hV⟩
        rw [List.getElem?_take] at hj
        split at hj
        · rw [List.getElem?_drop] at hj
          obtain ⟨b', o'', e, hh⟩ := hrow _ u hj
          simp only [Option.some.injEq, Addr.mk.injEq, and_true] at e
          obtain ⟨rfl, rfl⟩ := e
          exact ⟨_, _, rfl, by rw [h3, Nat.add_assoc]; exact hh⟩
        · cases hj
      · simp only [eval_fail] at h2
    · simp only [eval_fail] at h2
  · simp only [eval_fail] at he

theorem agg_of_partOf {x : AVal} {f : Nat} {r : Nat × AVal} (h : partOf x f = some r) : x.agg = true ∧ x.celled = true := by
  cases x with
  | d t y => cases t <;> cases f <;> simp [partOf] at h <;> exact ⟨rfl, rfl⟩
  | pr b c => exact ⟨rfl, rfl⟩
  | _ => cases f <;> simp [partOf] at h

theorem fits_isAggT {T : TypeId} {v : AVal} (h : fits P T v = true) : isAggT P T v.agg = true ∧ P.cellsOf T = v.size ∧ v.celled = true := by
  unfold fits at h
  simp only [Bool.and_eq_true, beq_iff_eq] at h
  exact ⟨h.2, h.1.2, h.1.1⟩

theorem field_runs (h : Inv C g β s a w) {T : TypeId} {x : Operand} {f : Nat} (ho : o.op = .field T x f) {v : AVal} (he : (fieldA P T (s.ev x) f).eval = some v) : Runs P o a w (Sts C (s.put o.dst v)) := by
  have hx := h.ev x
  unfold fieldA at he
  split at he
  · rename_i off ft o' v' hf hp
    obtain ⟨fs, fd, hT, hfd, rfl, rfl⟩ := fieldInfo_sound hf
    obtain ⟨h1, h2⟩ := eval_guard.1 he
    obtain rfl := eval_ok.1 h2
    simp only [Bool.and_eq_true, beq_iff_eq] at h1
    obtain ⟨rfl, hfits⟩ := h1
    obtain ⟨hag, hcel⟩ := agg_of_partOf hp
    obtain ⟨cs, hV, hO⟩ := hx.celled hcel
    rw [hag] at hO
    have hy : a.eval x = .agg cs.toArray := hO
    obtain ⟨hVp, hle⟩ := partOf_sound _ _ _ _ cs hV hp
    obtain ⟨q1, q2, q3⟩ := fits_isAggT hfits
    obtain ⟨y, hr, hOy⟩ := run_part (w := w) q1 q2 (fun hh => AVal.size_one hh) hle
    refine h.value (VS.of hVp hOy) (exec_value (f := Instr.field T (a.eval x) f) (by simp only [execOp, ho]) ?_)
    rw [hy]
    simp [Instr.field, run_underlying hT, hfd, asAgg, hr]
  · simp only [eval_fail] at he

theorem index_runs (h : Inv C g β s a w) {T : TypeId} {x y : Operand} (ho : o.op = .index T x y) {i : Int} (hi : (asInt (s.ev y)).eval = some i) {v : AVal} (he : (indexA P T (s.ev x) i).eval = some v) : Runs P o a w (Sts C (s.put o.dst v)) := by
  have hx := h.ev x
  obtain ⟨k, hy⟩ := asInt_of (h.ev y) hi
  have fin : ∀ z, (Instr.index T (a.eval x) (a.eval y)).run P w = .ok z w → VS (s.env w g β) v z → Runs P o a w (Sts C (s.put o.dst v)) := by
    intro z h1 h2
    exact h.value h2 (exec_value (f := Instr.index T (a.eval x) (a.eval y)) (by simp only [execOp, ho]) h1)
  unfold indexA at he
  split at he
  · rename_i n t l m e hl hT
    rw [hl] at hx
    obtain ⟨h1, h2⟩ := eval_guard.1 he
    obtain ⟨h3, h4⟩ := eval_chk.1 h2
    obtain rfl := eval_ok.1 h4
    simp only [Bool.and_eq_true, beq_iff_eq, decide_eq_true_eq] at h1 h3
    obtain ⟨rfl, hfits⟩ := h1
    obtain ⟨q1, q2, q3⟩ := fits_isAggT hfits
    obtain ⟨cs, hV, hO⟩ := hx.celled rfl
    have hyv : a.eval x = .agg cs.toArray := hO
    simp only [V, Rep] at hV
    obtain ⟨hlen, hch⟩ := hV
    have hlt : i.toNat < l.length := by omega
    obtain ⟨hp, hle⟩ := row_part hch hlt
    have q2' : P.cellsOf e = t.size := q2
    have q1' : isAggT P e t.agg = true := q1
    obtain ⟨y', hr, hOy⟩ := run_part (w := w) q1' q2' size_one_of hle
    obtain ⟨j, hj, _⟩ := isAggT_sound q1'
    rw [← nth_eq hlt] at hp
    refine fin y' ?_ (VS.of (by simpa only [V] using hp) hOy)
    rw [hyv, hy]
    have hsz := run_sizeOf hj w
    rw [← cellsOf_eq hj, q2'] at hsz
    simp [Instr.index, asIntOf, run_underlying hT, h3, hsz, hr]
  · rename_i st hl hT
    rw [hl] at hx
    obtain ⟨h3, h4⟩ := eval_chk.1 he
    obtain rfl := eval_ok.1 h4
    simp only [decide_eq_true_eq] at h3
    have e1 := str_of hx
    have hlt : i.toNat < st.data.toList.length := by
      have : st.size = st.data.toList.length := by rw [Array.length_toList]; rfl
      omega
    have hget : st[i.toNat]? = some (st.data.toList[i.toNat]) := by
      have hlt' : i.toNat < st.size := by omega
      rw [getElem?_pos st i.toNat hlt']
      rfl
    refine fin (.int .u8 ((st.data.toList.getD i.toNat 0).toNat : Int)) ?_ (VS_int _ _)
    rw [e1, hy]
    simp [Instr.index, asIntOf, run_underlying hT, h3.1, hget, List.getD_eq_getElem?_getD, List.getElem?_eq_getElem hlt]
  · simp only [eval_fail] at he

theorem VC_get {E : Env} : ∀ (c : AVal) (vs : List Value) (i : Nat) (v : AVal), VC E c vs → c.list[i]? = some v → ∃ y, vs[i]? = some y ∧ VS E v y := by
  intro c
  induction c with
  | cons x y _ ih =>
    intro vs i v hc hi
    simp only [VC] at hc
    obtain ⟨u, vs', cs, rfl, hV, hO, hc⟩ := hc
    cases i with
    | zero =>
      simp only [AVal.list, List.getElem?_cons_zero, Option.some.injEq] at hi
      subst hi
      exact ⟨u, rfl, VS.of hV hO⟩
    | succ i =>
      simp only [AVal.list, List.getElem?_cons_succ] at hi ⊢
      exact ih vs' i v hc hi
  | _ => intro vs i v hc hi; simp [AVal.list] at hi

theorem extract_runs (h : Inv C g β s a w) {x : Operand} {i : Nat} (ho : o.op = .extract x i) {v : AVal} (he : (Out.opt ((s.ev x).list[i]?)).eval = some v) : Runs P o a w (Sts C (s.put o.dst v)) := by
  have hx := h.ev x
  have he := eval_opt.1 he
  cases hc : s.ev x with
  | cons p q =>
    rw [hc] at hx he
    obtain ⟨vs, hy, hVC⟩ := hx
    obtain ⟨y, hv, hVS⟩ := VC_get _ vs i v hVC he
    refine h.value hVS (exec_value (f := Instr.extract (a.eval x) i) (by simp only [execOp, ho]) ?_)
    rw [hy]
    simp [Instr.extract, hv]
  | _ => rw [hc] at he; simp [AVal.list] at he

theorem VC_caps (h : Inv C g β s a w) : ∀ (l : List Operand), celledList (capsOf s l) = true → VC (s.env w g β) (capsOf s l) (l.map a.eval)
  | [], _ => by simp [capsOf, VC]
  | x :: xs, hc => by
    simp only [capsOf, celledList, Bool.and_eq_true] at hc
    obtain ⟨cs, hV, hO⟩ := (h.ev x).celled hc.1
    simp only [capsOf, VC, List.map_cons]
    exact ⟨_, _, cs, rfl, hV, hO, VC_caps h xs hc.2⟩

theorem makeFunc_runs (h : Inv C g β s a w) {f : FuncId} {first caps : Array Operand} (ho : o.op = .makeFunc (.func f) first caps) (h1 : first.isEmpty = true) (h2 : celledList (capsOf s caps.toList) = true) :
    Runs P o a w (Sts C (s.put o.dst (.fn f (capsOf s caps.toList)))) := by
  have hf : first = #[] := by simpa using h1
  refine h.value (x := .func (.func f) #[] (caps.toList.map a.eval).toArray) ⟨_, ?_, rfl⟩ (exec_value (f := Instr.makeFunc (.func f) (first.map a.eval) (caps.map a.eval)) (by simp only [execOp, ho]) ?_)
  · simp only [V]
    exact ⟨_, rfl, VC_caps h _ h2⟩
  · subst hf
    have : caps.map a.eval = (caps.toList.map a.eval).toArray := by apply Array.ext'; simp
    simp [Instr.makeFunc, this]

theorem toArr_runs (h : Inv C g β s a w) {T : TypeId} {x : Operand} (ho : o.op = .sliceToArrayPointer T x) {s' : AS} (he : (toArrA P s o.dst T (s.ev x)).eval = some s') : Runs P o a w (Sts C s') := by
  have hx := h.ev x
  unfold toArrA at he
  split at he
  · rename_i n e hT
    split at he
    · rename_i t ht
      obtain ⟨h1, h2⟩ := eval_guard.1 he
      obtain ⟨l, h3, h4⟩ := eval_bind.1 h2
      obtain ⟨h5, h6⟩ := eval_chk.1 h4
      obtain rfl := eval_ok.1 h6
      simp only [Bool.and_eq_true, Bool.not_eq_true', beq_iff_eq, beq_eq_false_iff_ne, decide_eq_true_eq] at h1 h5
      obtain ⟨⟨hz, hn⟩, hz0⟩ := h1
      obtain ⟨g1, i1, e1, t1, cs, hR, hO⟩ := toTy_sound h hx h3
      simp only [Rep] at hR
      obtain ⟨ad, cap, vs, rfl, hlc, hsome, hrow, hch⟩ := hR
      have hO' : [Value.slice ad (List.length l) cap] = [a.eval x] := hO
      have hy : a.eval x = .slice ad (List.length l) cap := by simpa using hO'.symm
      have hlen := Chunks.length (fun c x hx => Rep.size hx) hch
      have h0 : 0 < vs.length := by rw [hlen]; exact Nat.mul_pos (by omega) (by omega)
      obtain ⟨bb, off, e2, _⟩ := hrow 0 vs[0] (by simp [h0])
      subst e2
      refine .inl ⟨.pointer (some ⟨bb, off, none⟩), w, ?_, g1, β, i1.put o.dst ⟨_, ?_, rfl⟩⟩
      · refine exec_value (f := Instr.arrayAt T (a.eval x)) (by simp only [execOp, ho]) ?_
        rw [hy]
        have : ¬ List.length l < n := by omega
        simp [Instr.arrayAt, run_underlying hT, this]
      · simp only [V]
        refine ⟨bb, off, vs.take (n * t.size), rfl, fun j u hj => ?_, ?_⟩
        · rw [List.getElem?_take] at hj
          split at hj
          · exact hrow j u hj
          · cases hj
        · simp only [Rep]
          exact ⟨by simp; omega, Chunks.take (fun _ _ hx => hx.size) n hch⟩
    · simp only [eval_fail] at he
  · simp only [eval_fail] at he

end
end Go.Ab
