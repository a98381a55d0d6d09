/-
  Soundness of the operations, fourth part: tests of equality, conversions, places, slices.
-/
import Derived.Test.YtdmpbapgnkdjpaaAb7
namespace Go.Ab

section
variable {P : Program} {C : Ctx} {g : Nat → Lab} {β : Id → Option Pl} {s : AS} {a : Act} {w : World} {o : Oper}

theorem one_of {E : Env} {v : AVal} {y c : Value} (h : VS E v y) (hc : v.celled = true) (ha : v.agg = false) (hV : ∀ cs, V E v cs → cs = [c]) : y = c := by
  have := h.single hc ha
  simpa using hV _ this

theorem nilp_of {E : Env} {y : Value} (h : VS E .nilp y) : y = .pointer none := one_of h rfl rfl fun cs hv => by simpa only [V] using hv
theorem nilf_of {E : Env} {y : Value} (h : VS E .nilf y) : y = .nilFunc := one_of h rfl rfl fun cs hv => by simpa only [V] using hv
theorem fn_of {E : Env} {f : FuncId} {c : AVal} {y : Value} (h : VS E (.fn f c) y) : ∃ vs, y = .func (.func f) #[] vs.toArray ∧ VC E c vs := by
  have h1 := h.single rfl rfl
  simp only [V] at h1
  obtain ⟨vs, e, hc⟩ := h1
  exact ⟨vs, by simpa using e, hc⟩

theorem equal_run {T : TypeId} {u v : Value} {b : Bool} (h : ∀ d, (Op.equalIn (d + 1) T u v).run P w = .ok b w) : (Op.equal T u v).run P w = .ok b w := h 9999

theorem eqOp_sound {T : TypeId} {x y : AVal} {u v : Value} {E : Env} (hx : VS E x u) (hy : VS E y v) {b : Bool} (he : (eqOp P T x y).eval = some b) :
    (Op.equal T u v).run P w = .ok b w ∧ u ≠ .nilIface ∧ (isAggV u = false ∨ (isAggV v = true ∧ P.eqGuardType P.depth T = false)) ∧
      (∀ op, binOp op T u v = (match op with | .eql => do pure (.bool (← Op.equal T u v)) | .neq => do pure (.bool (!(← Op.equal T u v))) | _ => binOp op T u v)) := by
  unfold eqOp at he
  split at he
  · rename_i t x' t' y'
    obtain ⟨y'', h1, h2⟩ := eval_bind.1 he
    obtain ⟨rfl, h1⟩ := castTy_some (eval_opt.1 h1)
    simp only at h1
    subst h1
    obtain ⟨h3, h4⟩ := eval_guard.1 h2
    obtain rfl := eval_ok.1 h4
    simp only [Bool.and_eq_true, Bool.or_eq_true, Bool.not_eq_true', decide_eq_true_eq] at h3
    obtain ⟨h3, h5⟩ := h3
    obtain ⟨cx, hVx, hOx⟩ := hx.celled rfl
    obtain ⟨cy, hVy, hOy⟩ := hy.celled rfl
    simp only [V] at hVx hVy
    have hr := equalIn_sound (w := w) E depth T t' h5 10000 (by decide) cx cy x' y' u v hVx hVy hOx hOy
    refine ⟨hr, ?_⟩
    rcases h3 with ⟨hag, hgt⟩ | rfl
    · have hOx' : OfCells t'.agg cx u := hOx
      have hOy' : OfCells t'.agg cy v := hOy
      rw [hag] at hOx' hOy'
      have e1 : u = .agg cx.toArray := hOx'
      have e2 : v = .agg cy.toArray := hOy'
      subst e1 e2
      exact ⟨by simp, .inr ⟨rfl, hgt⟩, fun op => by cases op <;> rfl⟩
    · simp only [Rep] at hVx hVy
      have e1 : cx = [u] := hOx
      have e2 : cy = [v] := hOy
      rw [hVx] at e1; rw [hVy] at e2
      simp only [List.cons.injEq, and_true] at e1 e2
      subst e1 e2
      exact ⟨by simp, .inl rfl, fun op => by cases op <;> rfl⟩
  · obtain ⟨h1, h2⟩ := eval_guard.1 he
    obtain rfl := eval_ok.1 h2
    rw [nils_of hx, nils_of hy]
    unfold eqOp.isSl at h1
    split at h1 <;> try (cases h1; done)
    rename_i e hT
    exact ⟨equal_run fun d => by simp [Op.equalIn, run_underlying hT], by simp, .inl rfl, fun op => by cases op <;> rfl⟩
  · obtain ⟨h1, h2⟩ := eval_guard.1 he
    obtain ⟨h3, h4⟩ := eval_chk.1 h2
    obtain rfl := eval_ok.1 h4
    obtain ⟨ad, cap, vs, rfl, _, hs, _⟩ := slice_of hx
    rw [nils_of hy]
    have hs := hs (by simpa using h3)
    obtain ⟨ad', rfl⟩ := Option.isSome_iff_exists.1 hs
    unfold eqOp.isSl at h1
    split at h1 <;> try (cases h1; done)
    rename_i e hT
    exact ⟨equal_run fun d => by simp [Op.equalIn, run_underlying hT], by simp, .inl rfl, fun op => by cases op <;> rfl⟩
  · obtain ⟨h1, h2⟩ := eval_guard.1 he
    obtain ⟨h3, h4⟩ := eval_chk.1 h2
    obtain rfl := eval_ok.1 h4
    obtain ⟨ad, cap, vs, rfl, _, hs, _⟩ := slice_of hy
    rw [nils_of hx]
    have hs := hs (by simpa using h3)
    obtain ⟨ad', rfl⟩ := Option.isSome_iff_exists.1 hs
    unfold eqOp.isSl at h1
    split at h1 <;> try (cases h1; done)
    rename_i e hT
    exact ⟨equal_run fun d => by simp [Op.equalIn, run_underlying hT], by simp, .inl rfl, fun op => by cases op <;> rfl⟩
  · obtain ⟨h1, h2⟩ := eval_guard.1 he
    obtain ⟨h3, h4⟩ := eval_chk.1 h2
    obtain rfl := eval_ok.1 h4
    obtain ⟨ad, cap, rfl, _, hs, _⟩ := sref_of hx
    rw [nils_of hy]
    have hs := hs (by simpa using h3)
    obtain ⟨ad', rfl⟩ := Option.isSome_iff_exists.1 hs
    unfold eqOp.isSl at h1
    split at h1 <;> try (cases h1; done)
    rename_i e hT
    exact ⟨equal_run fun d => by simp [Op.equalIn, run_underlying hT], by simp, .inl rfl, fun op => by cases op <;> rfl⟩
  · obtain ⟨h1, h2⟩ := eval_guard.1 he
    obtain ⟨h3, h4⟩ := eval_chk.1 h2
    obtain rfl := eval_ok.1 h4
    obtain ⟨ad, cap, rfl, _, hs, _⟩ := sref_of hy
    rw [nils_of hx]
    have hs := hs (by simpa using h3)
    obtain ⟨ad', rfl⟩ := Option.isSome_iff_exists.1 hs
    unfold eqOp.isSl at h1
    split at h1 <;> try (cases h1; done)
    rename_i e hT
    exact ⟨equal_run fun d => by simp [Op.equalIn, run_underlying hT], by simp, .inl rfl, fun op => by cases op <;> rfl⟩
  · obtain ⟨h1, h2⟩ := eval_guard.1 he
    obtain rfl := eval_ok.1 h2
    rw [nilp_of hx, nilp_of hy]
    unfold eqOp.isPt at h1
    split at h1 <;> try (cases h1; done)
    rename_i e hT
    exact ⟨equal_run fun d => by simp [Op.equalIn, run_underlying hT], by simp, .inl rfl, fun op => by cases op <;> rfl⟩
  · obtain ⟨h1, h2⟩ := eval_guard.1 he
    obtain rfl := eval_ok.1 h2
    obtain ⟨ad, rfl, _⟩ := ptr_of hx
    rw [nilp_of hy]
    unfold eqOp.isPt at h1
    split at h1 <;> try (cases h1; done)
    rename_i e hT
    exact ⟨equal_run fun d => by simp [Op.equalIn, run_underlying hT], by simp, .inl rfl, fun op => by cases op <;> rfl⟩
  · obtain ⟨h1, h2⟩ := eval_guard.1 he
    obtain rfl := eval_ok.1 h2
    obtain ⟨ad, rfl, _⟩ := ptr_of hy
    rw [nilp_of hx]
    unfold eqOp.isPt at h1
    split at h1 <;> try (cases h1; done)
    rename_i e hT
    exact ⟨equal_run fun d => by simp [Op.equalIn, run_underlying hT], by simp, .inl rfl, fun op => by cases op <;> rfl⟩
  · obtain ⟨h1, h2⟩ := eval_guard.1 he
    obtain rfl := eval_ok.1 h2
    rw [nilf_of hx, nilf_of hy]
    unfold eqOp.isFn at h1
    split at h1 <;> try (cases h1; done)
    rename_i hT
    exact ⟨equal_run fun d => by simp [Op.equalIn, run_underlying hT], by simp, .inl rfl, fun op => by cases op <;> rfl⟩
  · obtain ⟨h1, h2⟩ := eval_guard.1 he
    obtain rfl := eval_ok.1 h2
    obtain ⟨vs, rfl, _⟩ := fn_of hx
    rw [nilf_of hy]
    unfold eqOp.isFn at h1
    split at h1 <;> try (cases h1; done)
    rename_i hT
    exact ⟨equal_run fun d => by simp [Op.equalIn, run_underlying hT], by simp, .inl rfl, fun op => by cases op <;> rfl⟩
  · obtain ⟨h1, h2⟩ := eval_guard.1 he
    obtain rfl := eval_ok.1 h2
    obtain ⟨vs, rfl, _⟩ := fn_of hy
    rw [nilf_of hx]
    unfold eqOp.isFn at h1
    split at h1 <;> try (cases h1; done)
    rename_i hT
    exact ⟨equal_run fun d => by simp [Op.equalIn, run_underlying hT], by simp, .inl rfl, fun op => by cases op <;> rfl⟩
  · simp only [eval_fail] at he

theorem eqGuard_agg {op : BinOp} {T : TypeId} {x y : Operand} {u v : Value} (hu : isAggV u = true) (hv : isAggV v = true) (hm : P.eqGuardType P.depth T = false) : (eqGuard op T x y u v).run P w = .ok () w := by
  cases u <;> first | (simp [isAggV] at hu; done) | skip
  cases v <;> first | (simp [isAggV] at hv; done) | skip
  exact run_eqGuard_agg w op T x y _ _ hm

theorem binOp_runs (h : Inv C g β s a w) {op : BinOp} {T U : TypeId} {x y : Operand} (ho : o.op = .binOp op T x y U) {v : AVal} (he : (binA P T op (s.ev x) (s.ev y)).eval = some v) : Runs P o a w (Sts C (s.put o.dst v)) := by
  have hx := h.ev x
  have hy := h.ev y
  have fin : ∀ z, (binOp op T (a.eval x) (a.eval y)).run P w = .ok z w → (eqGuard op T x y (a.eval x) (a.eval y)).run P w = .ok () w → VS (s.env w g β) v z → Runs P o a w (Sts C (s.put o.dst v)) := by
    intro z h1 h2 h3
    refine h.value h3 ?_
    simp [execOp, ho, h1, h2]
  unfold binA at he
  split at he
  · rename_i k n k' m hn hm
    rw [hn] at hx; rw [hm] at hy
    have e1 := int_of hx
    have e2 := int_of hy
    obtain ⟨z, h1, h2⟩ := intOp_sound (P := P) (w := w) he T (s.env w g β)
    exact fin z (by rw [e1, e2]; exact h1) (by rw [e1, e2]; exact eqGuard_plain (by simp) rfl) h2
  · rename_i n m hn hm
    rw [hn] at hx; rw [hm] at hy
    have e1 := str_of hx
    have e2 := str_of hy
    obtain ⟨z, h1, h2⟩ := strOp_sound (P := P) (w := w) he T (s.env w g β)
    exact fin z (by rw [e1, e2]; exact h1) (by rw [e1, e2]; exact eqGuard_plain (by simp) rfl) h2
  · have grd : (isAggV (a.eval x) = false ∨ (isAggV (a.eval y) = true ∧ P.eqGuardType P.depth T = false)) → a.eval x ≠ .nilIface → (eqGuard op T x y (a.eval x) (a.eval y)).run P w = .ok () w := by
      intro hh hne
      rcases hh with hh | ⟨hh, hm⟩
      · exact eqGuard_plain hne hh
      · rcases Bool.eq_false_or_eq_true (isAggV (a.eval x)) with hx | hx
        · exact eqGuard_agg hx hh hm
        · exact eqGuard_plain hne hx
    split at he
    · obtain ⟨b, h1, h2⟩ := eval_bind.1 he
      obtain rfl := eval_ok.1 h2
      obtain ⟨q1, q2, q3, q4⟩ := eqOp_sound (w := w) hx hy h1
      refine fin (.bool b) ?_ (grd q3 q2) (VS_bool b)
      rw [q4 .eql]
      simp [q1]
    · obtain ⟨b, h1, h2⟩ := eval_bind.1 he
      obtain rfl := eval_ok.1 h2
      obtain ⟨q1, q2, q3, q4⟩ := eqOp_sound (w := w) hx hy h1
      refine fin (.bool (!b)) ?_ (grd q3 q2) (VS_bool (!b))
      rw [q4 .neq]
      simp [q1]
    · simp only [eval_fail] at he

theorem unOp_runs (h : Inv C g β s a w) {op : UnOp} {T : TypeId} {x : Operand} (ho : o.op = .unOp op T x) {v : AVal} (he : (unA op (s.ev x)).eval = some v) : Runs P o a w (Sts C (s.put o.dst v)) := by
  have hx := h.ev x
  unfold unA at he
  split at he
  · rename_i b hb
    rw [hb] at hx
    obtain rfl := eval_ok.1 he
    exact h.value (VS_bool _) (by simp [execOp, ho, bool_of hx, Op.unary])
  · rename_i k n hb
    rw [hb] at hx
    obtain rfl := eval_ok.1 he
    exact h.value (VS_int _ _) (by simp [execOp, ho, int_of hx, Op.unary, Op.intArith])
  · rename_i k n hb
    rw [hb] at hx
    obtain rfl := eval_ok.1 he
    refine h.value (VS_int _ _) ?_
    simp only [execOp, ho, int_of hx, Op.unary, Op.intBits]
    simp [bitop]
  · simp only [eval_fail] at he

end
end Go.Ab
