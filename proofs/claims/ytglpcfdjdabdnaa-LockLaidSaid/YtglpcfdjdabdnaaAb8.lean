/-
  The abstract machine, a part.
-/
import Derived.Test.YtglpcfdjdabdnaaAb6

/-
  Soundness of the operations, fourth part: tests of equality, conversions, places, slices.
-/
namespace Go.Ab

section
variable {P : Program} {C : Ctx} {g : Nat → Lab} {β : Id → Option Pl} {s : AS} {a : Act} {w : World} {o : Oper}

theorem one_of {E : Env} {v : AVal} {y c : Value} (h : VS E v y) (hc : v.celled = true) (ha : v.agg = false) (hV : ∀ cs, V E v cs → cs = [c]) : y = c := by
  have := h.single hc ha
  simpa using hV _ this

theorem nilp_of {E : Env} {y : Value} (h : VS E .nilp y) : y = .pointer none := one_of h rfl rfl fun cs hv => by simpa only [V] using hv
theorem nilf_of {E : Env} {y : Value} (h : VS E .nilf y) : y = .nilFunc := one_of h rfl rfl fun cs hv => by simpa only [V] using hv
theorem fn_of {E : Env} {f : FuncId} {c : AVal} {y : Value} (h : VS E (.fn f c) y) : ∃ vs, y = .func (.func f) #[] vs.toArray ∧ VC E c vs := by
  have h1 := h.single rfl rfl
  simp only [V] at h1
  obtain ⟨vs, e, hc⟩ := h1
  exact ⟨vs, by simpa using e, hc⟩

theorem equal_run {T : TypeId} {u v : Value} {b : Bool} (h : ∀ d, (Op.equalIn (d + 1) T u v).run P w = .ok b w) : (Op.equal T u v).run P w = .ok b w := h 9999

theorem eqOp_sound {T : TypeId} {x y : AVal} {u v : Value} {E : Env} (hx : VS E x u) (hy : VS E y v) {b : Bool} (he : (eqOp P T x y).eval = some b) :
    (Op.equal T u v).run P w = .ok b w ∧ u ≠ .nilIface ∧ (isAggV u = false ∨ (isAggV v = true ∧ P.eqGuardType P.depth T = false)) ∧
      (∀ op, binOp op T u v = (match op with | .eql => do pure (.bool (← Op.equal T u v)) | .neq => do pure (.bool (!(← Op.equal T u v))) | _ => binOp op T u v)) := by
  unfold eqOp at he
  split at he
  · rename_i t x' t' y'
    obtain ⟨y'', h1, h2⟩ := eval_bind.1 he
    obtain ⟨rfl, h1⟩ := castTy_some (eval_opt.1 h1)
    simp only at h1
    subst h1
    obtain ⟨h3, h4⟩ := eval_guard.1 h2
    obtain rfl := eval_ok.1 h4
    simp only [Bool.and_eq_true, Bool.or_eq_true, Bool.not_eq_true', decide_eq_true_eq] at h3
    obtain ⟨h3, h5⟩ := h3
    obtain ⟨cx, hVx, hOx⟩ := hx.celled rfl
    obtain ⟨cy, hVy, hOy⟩ := hy.celled rfl
    simp only [V] at hVx hVy
    have hr := equalIn_sound (w := w) E depth T t' h5 10000 (by decide) cx cy x' y' u v hVx hVy hOx hOy
    refine ⟨hr, ?_⟩
    rcases h3 with ⟨hag, hgt⟩ | rfl
    · have hOx' : OfCells t'.agg cx u := hOx
      have hOy' : OfCells t'.agg cy v := hOy
      rw [hag] at hOx' hOy'
      have e1 : u = .agg cx.toArray := hOx'
      have e2 : v = .agg cy.toArray := hOy'
      subst e1 e2
      exact ⟨by simp, .inr ⟨rfl, hgt⟩, fun op => by cases op <;> rfl⟩
    · simp only [Rep] at hVx hVy
      have e1 : cx = [u] := hOx
      have e2 : cy = [v] := hOy
      rw [hVx] at e1; rw [hVy] at e2
      simp only [List.cons.injEq, and_true] at e1 e2
      subst e1 e2
      exact ⟨by simp, .inl rfl, fun op => by cases op <;> rfl⟩
  · obtain ⟨h1, h2⟩ := eval_guard.1 he
    obtain rfl := eval_ok.1 h2
    rw [nils_of hx, nils_of hy]
    unfold eqOp.isSl at h1
    split at h1 <;> try (cases h1; done)
    rename_i e hT
    exact ⟨equal_run fun d => by simp [Op.equalIn, run_underlying hT], by simp, .inl rfl, fun op => by cases op <;> rfl⟩
  · obtain ⟨h1, h2⟩ := eval_guard.1 he
    obtain ⟨h3, h4⟩ := eval_chk.1 h2
    obtain rfl := eval_ok.1 h4
    obtain ⟨ad, cap, vs, rfl, _, hs, _⟩ := slice_of hx
    rw [nils_of hy]
    have hs := hs (by simpa using h3)
    obtain ⟨ad', rfl⟩ := Option.isSome_iff_exists.1 hs
    unfold eqOp.isSl at h1
    split at h1 <;> try (cases h1; done)
    rename_i e hT
    exact ⟨equal_run fun d => by simp [Op.equalIn, run_underlying hT], by simp, .inl rfl, fun op => by cases op <;> rfl⟩
  · obtain ⟨h1, h2⟩ := eval_guard.1 he
    obtain ⟨h3, h4⟩ := eval_chk.1 h2
    obtain rfl := eval_ok.1 h4
    obtain ⟨ad, cap, vs, rfl, _, hs, _⟩ := slice_of hy
    rw [nils_of hx]
    have hs := hs (by simpa using h3)
    obtain ⟨ad', rfl⟩ := Option.isSome_iff_exists.1 hs
    unfold eqOp.isSl at h1
    split at h1 <;> try (cases h1; done)
    rename_i e hT
    exact ⟨equal_run fun d => by simp [Op.equalIn, run_underlying hT], by simp, .inl rfl, fun op => by cases op <;> rfl⟩
  · obtain ⟨h1, h2⟩ := eval_guard.1 he
    obtain ⟨h3, h4⟩ := eval_chk.1 h2
    obtain rfl := eval_ok.1 h4
    obtain ⟨ad, cap, rfl, _, hs, _⟩ := sref_of hx
    rw [nils_of hy]
    have hs := hs (by simpa using h3)
    obtain ⟨ad', rfl⟩ := Option.isSome_iff_exists.1 hs
    unfold eqOp.isSl at h1
    split at h1 <;> try (cases h1; done)
    rename_i e hT
    exact ⟨equal_run fun d => by simp [Op.equalIn, run_underlying hT], by simp, .inl rfl, fun op => by cases op <;> rfl⟩
  · obtain ⟨h1, h2⟩ := eval_guard.1 he
    obtain ⟨h3, h4⟩ := eval_chk.1 h2
    obtain rfl := eval_ok.1 h4
    obtain ⟨ad, cap, rfl, _, hs, _⟩ := sref_of hy
    rw [nils_of hx]
    have hs := hs (by simpa using h3)
    obtain ⟨ad', rfl⟩ := Option.isSome_iff_exists.1 hs
    unfold eqOp.isSl at h1
    split at h1 <;> try (cases h1; done)
    rename_i e hT
    exact ⟨equal_run fun d => by simp [Op.equalIn, run_underlying hT], by simp, .inl rfl, fun op => by cases op <;> rfl⟩
  · obtain ⟨h1, h2⟩ := eval_guard.1 he
    obtain rfl := eval_ok.1 h2
    rw [nilp_of hx, nilp_of hy]
    unfold eqOp.isPt at h1
    split at h1 <;> try (cases h1; done)
    rename_i e hT
    exact ⟨equal_run fun d => by simp [Op.equalIn, run_underlying hT], by simp, .inl rfl, fun op => by cases op <;> rfl⟩
  · obtain ⟨h1, h2⟩ := eval_guard.1 he
    obtain rfl := eval_ok.1 h2
    obtain ⟨ad, rfl, _⟩ := ptr_of hx
    rw [nilp_of hy]
    unfold eqOp.isPt at h1
    split at h1 <;> try (cases h1; done)
    rename_i e hT
    exact ⟨equal_run fun d => by simp [Op.equalIn, run_underlying hT], by simp, .inl rfl, fun op => by cases op <;> rfl⟩
  · obtain ⟨h1, h2⟩ := eval_guard.1 he
    obtain rfl := eval_ok.1 h2
    obtain ⟨ad, rfl, _⟩ := ptr_of hy
    rw [nilp_of hx]
    unfold eqOp.isPt at h1
    split at h1 <;> try (cases h1; done)
    rename_i e hT
    exact ⟨equal_run fun d => by simp [Op.equalIn, run_underlying hT], by simp, .inl rfl, fun op => by cases op <;> rfl⟩
  · obtain ⟨h1, h2⟩ := eval_guard.1 he
    obtain rfl := eval_ok.1 h2
    rw [nilf_of hx, nilf_of hy]
    unfold eqOp.isFn at h1
    split at h1 <;> try (cases h1; done)
    rename_i hT
    exact ⟨equal_run fun d => by simp [Op.equalIn, run_underlying hT], by simp, .inl rfl, fun op => by cases op <;> rfl⟩
  · obtain ⟨h1, h2⟩ := eval_guard.1 he
    obtain rfl := eval_ok.1 h2
    obtain ⟨vs, rfl, _⟩ := fn_of hx
    rw [nilf_of hy]
    unfold eqOp.isFn at h1
    split at h1 <;> try (cases h1; done)
    rename_i hT
    exact ⟨equal_run fun d => by simp [Op.equalIn, run_underlying hT], by simp, .inl rfl, fun op => by cases op <;> rfl⟩
  · obtain ⟨h1, h2⟩ := eval_guard.1 he
    obtain rfl := eval_ok.1 h2
    obtain ⟨vs, rfl, _⟩ := fn_of hy
    rw [nilf_of hx]
    unfold eqOp.isFn at h1
    split at h1 <;> try (cases h1; done)
    rename_i hT
    exact ⟨equal_run fun d => by simp [Op.equalIn, run_underlying hT], by simp, .inl rfl, fun op => by cases op <;> rfl⟩
  · simp only [eval_fail] at he

theorem eqGuard_agg {op : BinOp} {T : TypeId} {x y : Operand} {u v : Value} (hu : isAggV u = true) (hv : isAggV v = true) (hm : P.eqGuardType P.depth T = false) : (eqGuard op T x y u v).run P w = .ok () w := by
  cases u <;> first | (simp [isAggV] at hu; done) | skip
  cases v <;> first | (simp [isAggV] at hv; done) | skip
  exact run_eqGuard_agg w op T x y _ _ hm

theorem binOp_runs (h : Inv C g β s a w) {op : BinOp} {T U : TypeId} {x y : Operand} (ho : o.op = .binOp op T x y U) {v : AVal} (he : (binA P T op (s.ev x) (s.ev y)).eval = some v) : Runs P o a w (Sts C (s.put o.dst v)) := by
  have hx := h.ev x
  have hy := h.ev y
  have fin : ∀ z, (binOp op T (a.eval x) (a.eval y)).run P w = .ok z w → (eqGuard op T x y (a.eval x) (a.eval y)).run P w = .ok () w → VS (s.env w g β) v z → Runs P o a w (Sts C (s.put o.dst v)) := by
    intro z h1 h2 h3
    refine h.value h3 ?_
    simp [execOp, ho, h1, h2]
  unfold binA at he
  split at he
  · rename_i k n k' m hn hm
    rw [hn] at hx; rw [hm] at hy
    have e1 := int_of hx
    have e2 := int_of hy
    obtain ⟨z, h1, h2⟩ := intOp_sound (P := P) (w := w) he T (s.env w g β)
    exact fin z (by rw [e1, e2]; exact h1) (by rw [e1, e2]; exact eqGuard_plain (by simp) rfl) h2
  · rename_i n m hn hm
    rw [hn] at hx; rw [hm] at hy
    have e1 := str_of hx
    have e2 := str_of hy
    obtain ⟨z, h1, h2⟩ := strOp_sound (P := P) (w := w) he T (s.env w g β)
    exact fin z (by rw [e1, e2]; exact h1) (by rw [e1, e2]; exact eqGuard_plain (by simp) rfl) h2
  · have grd : (isAggV (a.eval x) = false ∨ (isAggV (a.eval y) = true ∧ P.eqGuardType P.depth T = false)) → a.eval x ≠ .nilIface → (eqGuard op T x y (a.eval x) (a.eval y)).run P w = .ok () w := by
      intro hh hne
      rcases hh with hh | ⟨hh, hm⟩
      · exact eqGuard_plain hne hh
      · rcases Bool.eq_false_or_eq_true (isAggV (a.eval x)) with hx | hx
        · exact eqGuard_agg hx hh hm
        · exact eqGuard_plain hne hx
    split at he
    · obtain ⟨b, h1, h2⟩ := eval_bind.1 he
      obtain rfl := eval_ok.1 h2
      obtain ⟨q1, q2, q3, q4⟩ := eqOp_sound (w := w) hx hy h1
      refine fin (.bool b) ?_ (grd q3 q2) (VS_bool b)
      rw [q4 .eql]
      simp [q1]
    · obtain ⟨b, h1, h2⟩ := eval_bind.1 he
      obtain rfl := eval_ok.1 h2
      obtain ⟨q1, q2, q3, q4⟩ := eqOp_sound (w := w) hx hy h1
      refine fin (.bool (!b)) ?_ (grd q3 q2) (VS_bool (!b))
      rw [q4 .neq]
      simp [q1]
    · simp only [eval_fail] at he

theorem unOp_runs (h : Inv C g β s a w) {op : UnOp} {T : TypeId} {x : Operand} (ho : o.op = .unOp op T x) {v : AVal} (he : (unA op (s.ev x)).eval = some v) : Runs P o a w (Sts C (s.put o.dst v)) := by
  have hx := h.ev x
  unfold unA at he
  split at he
  · rename_i b hb
    rw [hb] at hx
    obtain rfl := eval_ok.1 he
    exact h.value (VS_bool _) (by simp [execOp, ho, bool_of hx, Op.unary])
  · rename_i k n hb
    rw [hb] at hx
    obtain rfl := eval_ok.1 he
    exact h.value (VS_int _ _) (by simp [execOp, ho, int_of hx, Op.unary, Op.intArith])
  · rename_i k n hb
    rw [hb] at hx
    obtain rfl := eval_ok.1 he
    refine h.value (VS_int _ _) ?_
    simp only [execOp, ho, int_of hx, Op.unary, Op.intBits]
    simp [bitop]
  · simp only [eval_fail] at he

end
end Go.Ab

/-
  Soundness of the operations, fifth part: slices.
-/
namespace Go.Ab

section
variable {P : Program} {C : Ctx} {g : Nat → Lab} {β : Id → Option Pl} {s : AS} {a : Act} {w : World} {o : Oper}

/-! ### Slices' bounds -/

theorem asInt_of {E : Env} {v : AVal} {y : Value} (h : VS E v y) {n : Int} (he : (asInt v).eval = some n) : ∃ k, y = .int k n := by
  unfold asInt at he
  split at he
  · rename_i k m
    obtain rfl := eval_ok.1 he
    exact ⟨k, int_of h⟩
  · simp only [eval_fail] at he

theorem run_bound {k : IntKind} {i : Int} {y : Nat} (code : BoundsCode) (h : 0 ≤ i ∧ i ≤ (y : Int)) : (Instr.sliceBound (.int k i) y code).run P w = .ok i.toNat w :=
  run_sliceBound w k i y code h.1 h.2

/-- Bounds within the length. -/
theorem bounds_sound (h : Inv C g β s a w) {n cap : Nat} (hn : n ≤ cap) {lo hi : Option Operand} {r : Nat × Nat} (he : (bounds s n lo hi).eval = some r) (isS : Bool) :
    (Instr.sliceBounds isS n cap (lo.map a.eval) (hi.map a.eval) none).run P w = .ok (r.1, r.2, cap) w ∧ r.1 ≤ r.2 ∧ r.2 ≤ n := by
  unfold bounds at he
  obtain ⟨hh, h1, h2⟩ := eval_bind.1 he
  obtain ⟨ll, h3, h4⟩ := eval_bind.1 h2
  obtain rfl := eval_ok.1 h4
  have hi1 : hh ≤ n ∧ ∀ y, hi.map a.eval = some y → ∃ k i, y = .int k i ∧ 0 ≤ i ∧ i ≤ (n : Int) ∧ hh = i.toNat := by
    cases hi with
    | none =>
      simp only at h1
      obtain rfl := eval_ok.1 h1
      exact ⟨Nat.le_refl _, fun y hy => by cases hy⟩
    | some x =>
      simp only at h1
      obtain ⟨i, q1, q2⟩ := eval_bind.1 h1
      obtain ⟨q3, q4⟩ := eval_chk.1 q2
      obtain rfl := eval_ok.1 q4
      simp only [decide_eq_true_eq] at q3
      obtain ⟨k, hk⟩ := asInt_of (h.ev x) q1
      refine ⟨by omega, fun y hy => ?_⟩
      simp only [Option.map_some, Option.some.injEq] at hy
      exact ⟨k, i, by rw [← hy]; exact hk, q3.1, q3.2, rfl⟩
  have hi0 : hi.map a.eval = none → hh = n := by
    intro hy
    cases hi with
    | none => simp only at h1; exact (eval_ok.1 h1).symm
    | some x => cases hy
  have lo1 : ll ≤ hh ∧ ∀ y, lo.map a.eval = some y → ∃ k i, y = .int k i ∧ 0 ≤ i ∧ i ≤ (hh : Int) ∧ ll = i.toNat := by
    cases lo with
    | none =>
      simp only at h3
      obtain rfl := eval_ok.1 h3
      exact ⟨Nat.zero_le _, fun y hy => by cases hy⟩
    | some x =>
      simp only at h3
      obtain ⟨i, q1, q2⟩ := eval_bind.1 h3
      obtain ⟨q3, q4⟩ := eval_chk.1 q2
      obtain rfl := eval_ok.1 q4
      simp only [decide_eq_true_eq] at q3
      obtain ⟨k, hk⟩ := asInt_of (h.ev x) q1
      refine ⟨by omega, fun y hy => ?_⟩
      simp only [Option.map_some, Option.some.injEq] at hy
      exact ⟨k, i, by rw [← hy]; exact hk, q3.1, q3.2, rfl⟩
  have lo0 : lo.map a.eval = none → ll = 0 := by
    intro hy
    cases lo with
    | none => simp only at h3; exact (eval_ok.1 h3).symm
    | some x => cases hy
  refine ⟨?_, lo1.1, hi1.1⟩
  unfold Instr.sliceBounds
  cases hhi : hi.map a.eval with
  | none =>
    obtain rfl := hi0 hhi
    cases hlo : lo.map a.eval with
    | none =>
      obtain rfl := lo0 hlo
      rfl
    | some y =>
      obtain ⟨k, i, rfl, q1, q2, rfl⟩ := lo1.2 y hlo
      simp only [Sem.run_bind, Sem.run_pure, Result.andThen_ok, run_bound _ ⟨q1, q2⟩]
  | some z =>
    obtain ⟨k', i', rfl, p1, p2, rfl⟩ := hi1.2 z hhi
    have hb : ∀ code, (Instr.sliceBound (.int k' i') cap code).run P w = .ok i'.toNat w := fun code => run_bound code ⟨p1, by omega⟩
    cases hlo : lo.map a.eval with
    | none =>
      obtain rfl := lo0 hlo
      simp only [Sem.run_bind, Sem.run_pure, Result.andThen_ok, hb]
    | some y =>
      obtain ⟨k, i, rfl, q1, q2, rfl⟩ := lo1.2 y hlo
      simp only [Sem.run_bind, Sem.run_pure, Result.andThen_ok, hb, run_bound _ ⟨q1, q2⟩]

theorem elemSize_slice {T : TypeId} {z : Nat} (h1 : elemSize P T = some z) (h2 : isArr P T = none) : ∃ e, P.underlying T = some (.slice e) ∧ P.cellsOf e = z ∧ 0 < z := by
  unfold elemSize at h1
  unfold isArr at h2
  split at h1
  · rename_i n e hT; rw [hT] at h2; cases h2
  · rename_i e hT
    cases hc : P.cellsOf e with
    | zero => rw [hc] at h1; cases h1
    | succ k =>
      rw [hc] at h1
      simp only [Option.some.injEq] at h1
      exact ⟨e, hT, by omega, by omega⟩
  · cases h1

theorem elemSize_arr {T : TypeId} {z n : Nat} (h1 : elemSize P T = some z) (h2 : isArr P T = some n) : ∃ e, P.underlying T = some (.array n e) ∧ P.cellsOf e = z ∧ 0 < z := by
  unfold elemSize at h1
  unfold isArr at h2
  split at h1
  · rename_i n e hT
    rw [hT] at h2
    simp only [Option.some.injEq] at h2
    subst h2
    cases hc : P.cellsOf e with
    | zero => rw [hc] at h1; cases h1
    | succ k =>
      rw [hc] at h1
      simp only [Option.some.injEq] at h1
      exact ⟨e, hT, by omega, by omega⟩
  · rename_i e hT; rw [hT] at h2; cases h2
  · cases h1

/-- sizeOf runs wherever the type is one of the program's. -/
theorem run_sizeOf' {e : TypeId} {z : Nat} (h : P.cellsOf e = z) (hz : 0 < z) (w : World) : (sizeOf e).run P w = .ok z w := by
  unfold Program.cellsOf at h
  cases hi : P.info? e with
  | none => rw [hi] at h; simp at h; omega
  | some i => rw [hi] at h; rw [run_sizeOf hi]; simpa using h

theorem slice_runs (h : Inv C g β s a w) {T : TypeId} {x : Operand} {lo hi : Option Operand} (ho : o.op = .slice T x lo hi none) {v : AVal} (he : (sliceA P s T (s.ev x) lo hi).eval = some v) : Runs P o a w (Sts C (s.put o.dst v)) := by
  have hx := h.ev x
  have fin : ∀ z, (Instr.sliceAt T (a.eval x) (lo.map a.eval) (hi.map a.eval) none).run P w = .ok z w → VS (s.env w g β) v z → Runs P o a w (Sts C (s.put o.dst v)) := by
    intro z h1 h2
    exact h.value h2 (exec_value (f := Instr.sliceAt T (a.eval x) (lo.map a.eval) (hi.map a.eval) none) (by simp only [execOp, ho, Option.map_none]) h1)
  have sl : ∀ (e : TypeId) (z : Nat) (ad : Option Addr) (len cap : Nat) (b : Nat × Nat), P.underlying T = some (.slice e) → P.cellsOf e = z → 0 < z → a.eval x = .slice ad len cap → len ≤ cap → (bounds s len lo hi).eval = some b →
      (Instr.sliceAt T (a.eval x) (lo.map a.eval) (hi.map a.eval) none).run P w = .ok (.slice (if cap = b.1 then ad else ad.map (·.add (b.1 * z))) (b.2 - b.1) (cap - b.1)) w ∧ b.1 ≤ b.2 ∧ b.2 ≤ len := by
    intro e z ad len cap b hT hz hpos hy hlc hb
    obtain ⟨h1, h2, h3⟩ := bounds_sound (P := P) h hlc hb true
    refine ⟨?_, h2, h3⟩
    rw [hy]
    simp [Instr.sliceAt, Instr.slice, run_underlying hT, h1, run_sizeOf' hz hpos]
  have ar : ∀ (e : TypeId) (z n : Nat) (ad : Addr) (b : Nat × Nat), P.underlying T = some (.array n e) → P.cellsOf e = z → 0 < z → a.eval x = .pointer (some ad) → (bounds s n lo hi).eval = some b →
      (Instr.sliceAt T (a.eval x) (lo.map a.eval) (hi.map a.eval) none).run P w = .ok (.slice (some (if n = b.1 then ad else ad.add (b.1 * z))) (b.2 - b.1) (n - b.1)) w ∧ b.1 ≤ b.2 ∧ b.2 ≤ n := by
    intro e z n ad b hT hz hpos hy hb
    obtain ⟨h1, h2, h3⟩ := bounds_sound (P := P) h (Nat.le_refl n) hb false
    refine ⟨?_, h2, h3⟩
    rw [hy]
    simp [Instr.sliceAt, Instr.sureAddr, run_underlying hT, h1, run_sizeOf' hz hpos]
  have cutR : ∀ (t : Ty) (z : Nat) (ad ad' : Option Addr) (len' cap' : Nat) (vs : List Value) (l : List t.den) (b : Nat × Nat), z = t.size → RowAt (s.env w g β) ad vs → Chunks (Rep (s.env w g β) t) vs l → b.1 ≤ b.2 → b.2 ≤ l.length →
      (∀ bb off, ad = some ⟨bb, off, none⟩ → b.1 < b.2 → ad' = some ⟨bb, off + b.1 * z, none⟩) → (b.1 < b.2 → ad'.isSome = true) → len' = b.2 - b.1 → len' ≤ cap' → VS (s.env w g β) (.d (.slice t) (cut l b.1 (b.2 - b.1))) (.slice ad' len' cap') := by
    intro t z ad ad' len' cap' vs l b hz hr hc h1 h2 hadd hsome hlen hle
    subst hz hlen
    have hcl : (cut l b.1 (b.2 - b.1)).length = b.2 - b.1 := cut_length (by omega)
    refine ⟨_, ?_, rfl⟩
    simp only [V, Rep]
    refine ⟨ad', cap', (vs.drop (b.1 * t.size)).take ((b.2 - b.1) * t.size), by rw [hcl], by omega, by rw [hcl]; intro hp; exact hsome (by omega), ?_, chunks_cut hc b.1 _⟩
    intro i v hi
    rw [List.getElem?_take] at hi
    split at hi
    · rename_i hil
      rw [List.getElem?_drop] at hi
      obtain ⟨bb, off, e, hh⟩ := hr _ v hi
      have hlt : b.1 < b.2 := by
        rcases Nat.lt_or_ge b.1 b.2 with h' | h'
        · exact h'
        · rw [Nat.sub_eq_zero_of_le h', Nat.zero_mul] at hil; omega
      exact ⟨bb, _, hadd bb off e hlt, by rw [Nat.add_assoc]; exact hh⟩
    · cases hi
  unfold sliceA at he
  split at he
  · rename_i st hst
    rw [hst] at hx
    have e1 := str_of hx
    obtain ⟨h1, h2⟩ := eval_guard.1 he
    obtain ⟨b, h3, h4⟩ := eval_bind.1 h2
    obtain rfl := eval_ok.1 h4
    split at h1 <;> try (cases h1; done)
    rename_i hT
    obtain ⟨q1, q2, q3⟩ := bounds_sound (P := P) h (Nat.le_refl _) h3 false
    refine fin (.string (st.extract b.1 b.2)) ?_ (VS_str _)
    rw [e1]
    simp [Instr.sliceAt, Instr.slice, run_underlying hT, q1]
  · rename_i t l hl
    rw [hl] at hx
    obtain ⟨ad, cap, vs, hy, hlc, hsome, hrow, hch⟩ := slice_of hx
    obtain ⟨h1, h2⟩ := eval_guard.1 he
    obtain ⟨b, h3, h4⟩ := eval_bind.1 h2
    obtain rfl := eval_ok.1 h4
    split at h1 <;> try (cases h1; done)
    rename_i z hz1 hz2
    obtain ⟨e, hT, hz, hpos⟩ := elemSize_slice hz1 hz2
    have hzt : z = t.size := by simpa using h1
    obtain ⟨q1, q2, q3⟩ := sl e z ad _ cap b hT hz hpos hy hlc h3
    refine fin _ q1 (cutR t z ad _ _ _ vs l b hzt hrow hch q2 q3 ?_ ?_ rfl (by omega))
    · intro bb off e1 hlt
      rw [if_neg (by omega), e1]
      simp [Addr.add_lit]
    · intro hlt
      rw [if_neg (by omega)]
      have := hsome (by omega)
      cases ad <;> simp_all
  · rename_i hl
    rw [hl] at hx
    have hy := nils_of hx
    obtain ⟨h1, h2⟩ := eval_guard.1 he
    obtain ⟨b, h3, h4⟩ := eval_bind.1 h2
    obtain rfl := eval_ok.1 h4
    split at h1 <;> try (cases h1; done)
    rename_i z hz1 hz2
    obtain ⟨e, hT, hz, hpos⟩ := elemSize_slice hz1 hz2
    obtain ⟨q1, q2, q3⟩ := sl e z none 0 0 b hT hz hpos hy (Nat.le_refl _) h3
    have hb1 : b.1 = 0 := by omega
    have hb2 : b.2 = 0 := by omega
    refine fin _ q1 ?_
    rw [hb1, hb2]
    exact ⟨_, by simp [V], rfl⟩
  · rename_i id ver p c i len hl
    rw [hl] at hx
    obtain ⟨ad, cap, hy, hlc, hsome, hbnd, hcur⟩ := sref_of hx
    obtain ⟨r, hr1, he⟩ := eval_bind.1 he
    obtain ⟨h1, h2⟩ := eval_guard.1 he
    obtain ⟨b, h3, h4⟩ := eval_bind.1 h2
    obtain rfl := eval_ok.1 h4
    split at h1 <;> try (cases h1; done)
    rename_i z hz1 hz2
    obtain ⟨e, hT, hz, hpos⟩ := elemSize_slice hz1 hz2
    have hzt : z = r.2.1.size := by simpa using h1
    obtain ⟨q1, q2, q3⟩ := sl e z ad _ cap b hT hz hpos hy hlc h3
    refine fin _ q1 ⟨_, ?_, rfl⟩
    simp only [V]
    refine ⟨_, _, rfl, by omega, ?_, hbnd, fun hc => ?_⟩
    · intro hlt
      rw [if_neg (by omega)]
      have := hsome (by omega)
      cases ad <;> simp_all
    · have hcur := hcur hc
      cases hp : β id with
      | none =>
        have hp' : (s.env w g β).β id = none := hp
        rw [hp'] at hcur ⊢
        simp only at hcur ⊢
        obtain ⟨rfl, rfl, rfl⟩ := hcur
        refine ⟨by simp, by omega, by omega⟩
      | some pl =>
        have hp' : (s.env w g β).β id = some pl := hp
        rw [hp'] at hcur ⊢
        simp only at hcur ⊢
        refine ⟨fun hh => ?_, fun hpn hi0 => ?_⟩
        · by_cases hcb : cap = b.1
          · rw [if_pos hcb]
            have hb0 : b.1 = 0 := by omega
            rw [hb0, Nat.zero_mul, Nat.add_zero]
            exact hcur.1 (.inr (by omega))
          · rw [if_neg hcb, hcur.1 (by omega), ← hzt]
            simp [Addr.add_lit]
        · have := hcur.2 hpn (by omega)
          omega
  · rename_i id ver p n hl
    rw [hl] at hx
    obtain ⟨ad, hy, hbnd, hcur⟩ := ptr_of hx
    obtain ⟨r, hr1, he⟩ := eval_bind.1 he
    obtain ⟨h1, h2⟩ := eval_guard.1 he
    obtain ⟨h5, h6⟩ := eval_chk.1 h2
    obtain ⟨b, h3, h4⟩ := eval_bind.1 h6
    obtain rfl := eval_ok.1 h4
    split at h1 <;> try (cases h1; done)
    rename_i z m hz1 hz2
    obtain ⟨e, hT, hz, hpos⟩ := elemSize_arr hz1 hz2
    have hzt : z = r.2.1.size := by simpa using h1
    rw [hz2, Option.getD_some] at h3
    obtain ⟨q1, q2, q3⟩ := ar e z m ad b hT hz hpos hy h3
    obtain ⟨fr, c0, hent, _⟩ := row_sound rfl h.objs hr1
    obtain ⟨pl, hp, had⟩ := hcur ⟨fr, c0, hent⟩
    refine fin _ q1 ⟨_, ?_, rfl⟩
    simp only [V]
    refine ⟨_, _, rfl, by omega, fun _ => rfl, hbnd, fun _ => ?_⟩
    rw [hp]
    simp only
    refine ⟨fun hh => ?_, fun hpn => by simp at hpn⟩
    rw [had]
    by_cases hcb : m = b.1
    · have hb0 : b.1 = 0 := by omega
      rw [if_pos hcb, hb0, Nat.zero_mul, Nat.add_zero]
    · rw [if_neg hcb, ← hzt, Addr.add_lit]
  · rename_i n t l hl
    rw [hl] at hx
    obtain ⟨bb, off, vs, hy, hrow, hR⟩ := rptr_of hx
    obtain ⟨h1, h2⟩ := eval_guard.1 he
    obtain ⟨b, h3, h4⟩ := eval_bind.1 h2
    obtain rfl := eval_ok.1 h4
    split at h1 <;> try (cases h1; done)
    rename_i z m hz1 hz2
    obtain ⟨e, hT, hz, hpos⟩ := elemSize_arr hz1 hz2
    simp only [Bool.and_eq_true, beq_iff_eq] at h1
    obtain ⟨hzt, rfl⟩ := h1
    obtain ⟨q1, q2, q3⟩ := ar e z m _ b hT hz hpos hy h3
    simp only [Rep] at hR
    obtain ⟨hlen, hch⟩ := hR
    refine fin _ q1 (cutR t z (some ⟨bb, off, none⟩) _ _ _ vs l b hzt hrow hch q2 (by omega) ?_ (fun _ => rfl) rfl (by omega))
    intro bb' off' e1 hlt
    simp only [Option.some.injEq, Addr.mk.injEq, and_true] at e1
    obtain ⟨rfl, rfl⟩ := e1
    rw [if_neg (by omega), Addr.add_lit]
  · simp only [eval_fail] at he

end
end Go.Ab

/-
  Soundness of the operations, sixth part: places and parts; functions as values; lengths; conversions.
-/
namespace Go.Ab

section
variable {P : Program} {C : Ctx} {g : Nat → Lab} {β : Id → Option Pl} {s : AS} {a : Act} {w : World} {o : Oper}

theorem indexAddr_runs (h : Inv C g β s a w) {T : TypeId} {x y : Operand} (ho : o.op = .indexAddr T x y) {i : Int} (hi : (asInt (s.ev y)).eval = some i) {v : AVal} (he : (indexAddrA P s T (s.ev x) i).eval = some v) : Runs P o a w (Sts C (s.put o.dst v)) := by
  have hx := h.ev x
  obtain ⟨k, hy⟩ := asInt_of (h.ev y) hi
  have fin : ∀ z, (Instr.indexAt T (a.eval x) (a.eval y)).run P w = .ok z w → VS (s.env w g β) v z → Runs P o a w (Sts C (s.put o.dst v)) := by
    intro z h1 h2
    exact h.value h2 (exec_value (f := Instr.indexAt T (a.eval x) (a.eval y)) (by simp only [execOp, ho]) h1)
  have sl : ∀ (e : TypeId) (z : Nat) (ad : Addr) (len cap : Nat), P.underlying T = some (.slice e) → P.cellsOf e = z → 0 < z → a.eval x = .slice (some ad) len cap → 0 ≤ i ∧ i < (len : Int) →
      (Instr.indexAt T (a.eval x) (a.eval y)).run P w = .ok (.pointer (some (ad.add (i.toNat * z)))) w := by
    intro e z ad len cap hT hz hpos hv hb
    rw [hv, hy]
    simp [Instr.indexAt, asIntOf, run_underlying hT, hb, run_sizeOf' hz hpos]
  have ar : ∀ (e : TypeId) (z n : Nat) (ad : Addr), P.underlying T = some (.array n e) → P.cellsOf e = z → 0 < z → a.eval x = .pointer (some ad) → 0 ≤ i ∧ i < (n : Int) →
      (Instr.indexAt T (a.eval x) (a.eval y)).run P w = .ok (.pointer (some (ad.add (i.toNat * z)))) w := by
    intro e z n ad hT hz hpos hv hb
    rw [hv, hy]
    simp [Instr.indexAt, Instr.sureAddr, asIntOf, run_underlying hT, hb, run_sizeOf' hz hpos]
  have elt : ∀ (t : Ty) (z : Nat) (bb off : Nat) (vs : List Value) (l : List t.den), z = t.size → RowAt (s.env w g β) (some ⟨bb, off, none⟩) vs → Chunks (Rep (s.env w g β) t) vs l → 0 ≤ i ∧ i < (l.length : Int) →
      VS (s.env w g β) (.rptr t (nth t l i.toNat)) (.pointer (some ⟨bb, off + i.toNat * z, none⟩)) := by
    intro t z bb off vs l hz hr hc hb
    subst hz
    have hlt : i.toNat < l.length := by omega
    rw [nth_eq hlt]
    obtain ⟨hp, _⟩ := row_part hc hlt
    refine ⟨_, ?_, rfl⟩
    simp only [V]
    refine ⟨_, _, _, rfl, fun j v hj => ?_, hp⟩
    rw [List.getElem?_take] at hj
    split at hj
    · rw [List.getElem?_drop] at hj
      obtain ⟨b', o', e, hh⟩ := hr _ v hj
      simp only [Option.some.injEq, Addr.mk.injEq, and_true] at e
      obtain ⟨rfl, rfl⟩ := e
      exact ⟨_, _, rfl, by rw [Nat.add_assoc]; exact hh⟩
    · cases hj
  unfold indexAddrA at he
  split at he
  · rename_i t l hl
    rw [hl] at hx
    obtain ⟨ad, cap, vs, hv, hlc, hsome, hrow, hch⟩ := slice_of hx
    obtain ⟨h1, h2⟩ := eval_guard.1 he
    obtain ⟨h3, h4⟩ := eval_chk.1 h2
    obtain rfl := eval_ok.1 h4
    simp only [decide_eq_true_eq] at h3
    split at h1 <;> try (cases h1; done)
    rename_i z hz1 hz2
    obtain ⟨e, hT, hz, hpos⟩ := elemSize_slice hz1 hz2
    have hzt : z = t.size := by simpa using h1
    have hlen := Chunks.length (fun c x hx => Rep.size hx) hch
    have hlt : i.toNat < l.length := by omega
    have h0 : 0 < vs.length := by rw [hlen]; exact Nat.mul_pos (by omega) (by omega)
    obtain ⟨bb, off, e1, _⟩ := hrow 0 vs[0] (by simp [h0])
    subst e1
    have := sl e z _ _ cap hT hz hpos hv h3
    rw [Addr.add_lit] at this
    exact fin _ this (elt t z bb off vs l hzt hrow hch h3)
  · rename_i n t l hl
    rw [hl] at hx
    obtain ⟨bb, off, vs, hv, hrow, hR⟩ := rptr_of hx
    obtain ⟨h1, h2⟩ := eval_guard.1 he
    obtain ⟨h3, h4⟩ := eval_chk.1 h2
    obtain rfl := eval_ok.1 h4
    simp only [decide_eq_true_eq] at h3
    split at h1 <;> try (cases h1; done)
    rename_i z m hz1 hz2
    obtain ⟨e, hT, hz, hpos⟩ := elemSize_arr hz1 hz2
    simp only [Bool.and_eq_true, beq_iff_eq] at h1
    obtain ⟨hzt, rfl⟩ := h1
    simp only [Rep] at hR
    have := ar e z m _ hT hz hpos hv h3
    rw [Addr.add_lit] at this
    exact fin _ this (elt t z bb off vs l hzt hrow hR.2 (by rw [hR.1]; exact h3))
  · rename_i id ver p c j len hl
    rw [hl] at hx
    obtain ⟨ad, cap, hv, hlc, hsome, hbnd, hcur⟩ := sref_of hx
    obtain ⟨r, hr1, he⟩ := eval_bind.1 he
    obtain ⟨h1, h2⟩ := eval_guard.1 he
    obtain ⟨h3, h4⟩ := eval_chk.1 h2
    obtain rfl := eval_ok.1 h4
    simp only [decide_eq_true_eq] at h3
    split at h1 <;> try (cases h1; done)
    rename_i z hz1 hz2
    obtain ⟨e, hT, hz, hpos⟩ := elemSize_slice hz1 hz2
    have hzt : z = r.2.1.size := by simpa using h1
    have hs := hsome (by omega)
    obtain ⟨ad', rfl⟩ := Option.isSome_iff_exists.1 hs
    refine fin _ (sl e z ad' len cap hT hz hpos hv h3) ⟨_, ?_, rfl⟩
    simp only [V]
    refine ⟨_, rfl, hbnd, fun hc => ?_⟩
    have hcur := hcur hc
    cases hp : β id with
    | none =>
      have hp' : (s.env w g β).β id = none := hp
      rw [hp'] at hcur
      exact absurd hcur.1 (by simp)
    | some pl =>
      have hp' : (s.env w g β).β id = some pl := hp
      rw [hp'] at hcur
      have e1 := hcur.1 (.inl (by omega))
      simp only [Option.some.injEq] at e1
      exact ⟨pl, hp, by rw [e1, Addr.add_lit, hzt]⟩
  · rename_i id ver p n hl
    rw [hl] at hx
    obtain ⟨ad, hv, hbnd, hcur⟩ := ptr_of hx
    obtain ⟨h1, h2⟩ := eval_guard.1 he
    obtain ⟨h3, h4⟩ := eval_chk.1 h2
    obtain rfl := eval_ok.1 h4
    simp only [decide_eq_true_eq] at h3
    split at h1 <;> try (cases h1; done)
    rename_i z m hz1 hz2
    obtain ⟨e, hT, hz, hpos⟩ := elemSize_arr hz1 hz2
    rw [hz2, Option.getD_some] at h3
    refine fin _ (ar e z m ad hT hz hpos hv h3) ⟨_, ?_, rfl⟩
    simp only [V]
    refine ⟨_, rfl, hbnd, fun hc => ?_⟩
    obtain ⟨pl, hp, had⟩ := hcur hc
    exact ⟨pl, hp, by rw [had, Addr.add_lit, hz1, Option.getD_some]⟩
  · simp only [eval_fail] at he

theorem fieldInfo_sound {T : TypeId} {f off : Nat} {ft : TypeId} (h : fieldInfo P T f = some (off, ft)) : ∃ fs fd, P.underlying T = some (.struct fs) ∧ fs[f]? = some fd ∧ fd.offset = off ∧ fd.type = ft := by
  unfold fieldInfo at h
  split at h
  · rename_i fs hT
    split at h
    · rename_i fd hf
      simp only [Option.some.injEq, Prod.mk.injEq] at h
      exact ⟨fs, fd, hT, hf, h.1, h.2⟩
    · cases h
  · cases h

theorem partOf_sound {E : Env} : ∀ (x : AVal) (f off : Nat) (v : AVal) (cs : List Value), V E x cs → partOf x f = some (off, v) → V E v ((cs.drop off).take v.size) ∧ off + v.size ≤ cs.length := by
  intro x f
  induction f generalizing x with
  | zero =>
    intro off v cs hx h
    cases x with
    | d t y =>
      cases t <;> simp only [partOf, reduceCtorEq] at h
      rename_i ta tb
      simp only [Option.some.injEq, Prod.mk.injEq] at h
      obtain ⟨rfl, rfl⟩ := h
      simp only [V, Rep] at hx ⊢
      obtain ⟨ca, cb, rfl, ha, hb⟩ := hx
      have := ha.size
      simp only [AVal.size, List.drop_zero, List.length_append, Nat.zero_add]
      rw [List.take_left' this]
      exact ⟨ha, by omega⟩
    | pr b c =>
      simp only [partOf, Option.some.injEq, Prod.mk.injEq] at h
      obtain ⟨rfl, rfl⟩ := h
      simp only [V] at hx
      obtain ⟨ca, cb, rfl, ha, hb⟩ := hx
      have := ha.size
      simp only [List.drop_zero, List.length_append, Nat.zero_add]
      rw [List.take_left' this]
      exact ⟨ha, by omega⟩
    | _ => simp only [partOf, reduceCtorEq] at h
  | succ f ih =>
    intro off v cs hx h
    have second : ∀ (ca cb : List Value) (n : Nat) (b : AVal), cs = ca ++ cb → ca.length = n → V E b cb → (match partOf b f with | some (o, v) => some (n + o, v) | none => none) = some (off, v) → V E v ((cs.drop off).take v.size) ∧ off + v.size ≤ cs.length := by
      intro ca cb n b e hl hb hh
      cases hp : partOf b f with
      | none => rw [hp] at hh; cases hh
      | some r =>
        obtain ⟨o', v'⟩ := r
        rw [hp] at hh
        simp only [Option.some.injEq, Prod.mk.injEq] at hh
        obtain ⟨rfl, rfl⟩ := hh
        obtain ⟨h1, h2⟩ := ih b o' v' cb hb hp
        subst e
        rw [← hl, List.drop_append, List.drop_of_length_le (by omega), List.nil_append, Nat.add_sub_cancel_left]
        exact ⟨h1, by simp only [List.length_append]; omega⟩
    cases x with
    | d t y =>
      cases t with
      | pair ta tb =>
        simp only [partOf] at h
        simp only [V, Rep] at hx
        obtain ⟨ca, cb, e, ha, hb⟩ := hx
        exact second ca cb ta.size (.d tb y.2) e ha.size (by simpa only [V] using hb) h
      | _ => simp only [partOf, reduceCtorEq] at h
    | pr b c =>
      simp only [partOf] at h
      simp only [V] at hx
      obtain ⟨ca, cb, e, ha, hb⟩ := hx
      exact second ca cb b.size c e ha.size hb h
    | _ => simp only [partOf, reduceCtorEq] at h

theorem fieldAddr_runs (h : Inv C g β s a w) {T : TypeId} {x : Operand} {f : Nat} (ho : o.op = .fieldAddr T x f) {v : AVal} (he : (fieldAddrA P T (s.ev x) f).eval = some v) : Runs P o a w (Sts C (s.put o.dst v)) := by
  have hx := h.ev x
  unfold fieldAddrA at he
  split at he
  · rename_i off ft hf
    obtain ⟨fs, fd, hT, hfd, rfl, rfl⟩ := fieldInfo_sound hf
    obtain ⟨h1, h2⟩ := eval_guard.1 he
    have hz : P.cellsOf fd.type ≠ 0 := by simpa using h1
    have run : ∀ bb n, a.eval x = .pointer (some ⟨bb, n, none⟩) → (Instr.fieldAt T (a.eval x) f).run P w = .ok (.pointer (some ⟨bb, n + fd.offset, none⟩)) w := by
      intro bb n hy
      rw [hy]
      simp [Instr.fieldAt, run_underlying hT, hfd, Instr.sureAddr, fieldPlace, run_sizeOf' (P := P) (e := fd.type) rfl (by omega), hz, Addr.add_lit]
    have runS : ∀ ad, a.eval x = .pointer (some ad) → (Instr.fieldAt T (a.eval x) f).run P w = .ok (.pointer (some (ad.add fd.offset))) w := by
      intro ad hy
      rw [hy]
      simp [Instr.fieldAt, run_underlying hT, hfd, Instr.sureAddr, fieldPlace, run_sizeOf' (P := P) (e := fd.type) rfl (by omega), hz]
    have fin : ∀ z, (Instr.fieldAt T (a.eval x) f).run P w = .ok z w → VS (s.env w g β) v z → Runs P o a w (Sts C (s.put o.dst v)) := by
      intro z h1 h2
      exact h.value h2 (exec_value (f := Instr.fieldAt T (a.eval x) f) (by simp only [execOp, ho]) h1)
    split at h2
    · rename_i id ver p n hl
      rw [hl] at hx
      obtain rfl := eval_ok.1 h2
      obtain ⟨ad, hy, hbnd, hcur⟩ := ptr_of hx
      refine fin _ (runS ad hy) ⟨_, ?_, rfl⟩
      simp only [V]
      refine ⟨_, rfl, hbnd, fun hc => ?_⟩
      obtain ⟨pl, hp, had⟩ := hcur hc
      exact ⟨pl, hp, by rw [had, Addr.add_lit]⟩
    · rename_i t y hl
      rw [hl] at hx
      obtain ⟨bb, off, vs, hy, hrow, hR⟩ := rptr_of hx
      split at h2
      · rename_i o' t' y' hp
        obtain ⟨h3, h4⟩ := eval_guard.1 h2
        obtain rfl := eval_ok.1 h4
        have h3 : fd.offset = o' := by simpa using h3
        obtain ⟨hV, hle⟩ := partOf_sound (.d t y) f o' (.d t' y') vs (by simpa only [V] using hR) hp
        refine fin _ (run bb off hy) ⟨_, ?_, rfl⟩
        simp only [V] at hV ⊢
        refine ⟨_, _, _, rfl, fun j u hj => ?_, hV⟩
        rw [List.getElem?_take] at hj
        split at hj
        · rw [List.getElem?_drop] at hj
          obtain ⟨b', o'', e, hh⟩ := hrow _ u hj
          simp only [Option.some.injEq, Addr.mk.injEq, and_true] at e
          obtain ⟨rfl, rfl⟩ := e
          exact ⟨_, _, rfl, by rw [h3, Nat.add_assoc]; exact hh⟩
        · cases hj
      · simp only [eval_fail] at h2
    · simp only [eval_fail] at h2
  · simp only [eval_fail] at he

theorem agg_of_partOf {x : AVal} {f : Nat} {r : Nat × AVal} (h : partOf x f = some r) : x.agg = true ∧ x.celled = true := by
  cases x with
  | d t y => cases t <;> cases f <;> simp [partOf] at h <;> exact ⟨rfl, rfl⟩
  | pr b c => exact ⟨rfl, rfl⟩
  | _ => cases f <;> simp [partOf] at h

theorem fits_isAggT {T : TypeId} {v : AVal} (h : fits P T v = true) : isAggT P T v.agg = true ∧ P.cellsOf T = v.size ∧ v.celled = true := by
  unfold fits at h
  simp only [Bool.and_eq_true, beq_iff_eq] at h
  exact ⟨h.2, h.1.2, h.1.1⟩

theorem field_runs (h : Inv C g β s a w) {T : TypeId} {x : Operand} {f : Nat} (ho : o.op = .field T x f) {v : AVal} (he : (fieldA P T (s.ev x) f).eval = some v) : Runs P o a w (Sts C (s.put o.dst v)) := by
  have hx := h.ev x
  unfold fieldA at he
  split at he
  · rename_i off ft o' v' hf hp
    obtain ⟨fs, fd, hT, hfd, rfl, rfl⟩ := fieldInfo_sound hf
    obtain ⟨h1, h2⟩ := eval_guard.1 he
    obtain rfl := eval_ok.1 h2
    simp only [Bool.and_eq_true, beq_iff_eq] at h1
    obtain ⟨rfl, hfits⟩ := h1
    obtain ⟨hag, hcel⟩ := agg_of_partOf hp
    obtain ⟨cs, hV, hO⟩ := hx.celled hcel
    rw [hag] at hO
    have hy : a.eval x = .agg cs.toArray := hO
    obtain ⟨hVp, hle⟩ := partOf_sound _ _ _ _ cs hV hp
    obtain ⟨q1, q2, q3⟩ := fits_isAggT hfits
    obtain ⟨y, hr, hOy⟩ := run_part (w := w) q1 q2 (fun hh => AVal.size_one hh) hle
    refine h.value (VS.of hVp hOy) (exec_value (f := Instr.field T (a.eval x) f) (by simp only [execOp, ho]) ?_)
    rw [hy]
    simp [Instr.field, run_underlying hT, hfd, asAgg, hr]
  · simp only [eval_fail] at he

theorem index_runs (h : Inv C g β s a w) {T : TypeId} {x y : Operand} (ho : o.op = .index T x y) {i : Int} (hi : (asInt (s.ev y)).eval = some i) {v : AVal} (he : (indexA P T (s.ev x) i).eval = some v) : Runs P o a w (Sts C (s.put o.dst v)) := by
  have hx := h.ev x
  obtain ⟨k, hy⟩ := asInt_of (h.ev y) hi
  have fin : ∀ z, (Instr.index T (a.eval x) (a.eval y)).run P w = .ok z w → VS (s.env w g β) v z → Runs P o a w (Sts C (s.put o.dst v)) := by
    intro z h1 h2
    exact h.value h2 (exec_value (f := Instr.index T (a.eval x) (a.eval y)) (by simp only [execOp, ho]) h1)
  unfold indexA at he
  split at he
  · rename_i n t l m e hl hT
    rw [hl] at hx
    obtain ⟨h1, h2⟩ := eval_guard.1 he
    obtain ⟨h3, h4⟩ := eval_chk.1 h2
    obtain rfl := eval_ok.1 h4
    simp only [Bool.and_eq_true, beq_iff_eq, decide_eq_true_eq] at h1 h3
    obtain ⟨rfl, hfits⟩ := h1
    obtain ⟨q1, q2, q3⟩ := fits_isAggT hfits
    obtain ⟨cs, hV, hO⟩ := hx.celled rfl
    have hyv : a.eval x = .agg cs.toArray := hO
    simp only [V, Rep] at hV
    obtain ⟨hlen, hch⟩ := hV
    have hlt : i.toNat < l.length := by omega
    obtain ⟨hp, hle⟩ := row_part hch hlt
    have q2' : P.cellsOf e = t.size := q2
    have q1' : isAggT P e t.agg = true := q1
    obtain ⟨y', hr, hOy⟩ := run_part (w := w) q1' q2' size_one_of hle
    obtain ⟨j, hj, _⟩ := isAggT_sound q1'
    rw [← nth_eq hlt] at hp
    refine fin y' ?_ (VS.of (by simpa only [V] using hp) hOy)
    rw [hyv, hy]
    have hsz := run_sizeOf hj w
    rw [← cellsOf_eq hj, q2'] at hsz
    simp [Instr.index, asIntOf, run_underlying hT, h3, hsz, hr]
  · rename_i st hl hT
    rw [hl] at hx
    obtain ⟨h3, h4⟩ := eval_chk.1 he
    obtain rfl := eval_ok.1 h4
    simp only [decide_eq_true_eq] at h3
    have e1 := str_of hx
    have hlt : i.toNat < st.data.toList.length := by
      have : st.size = st.data.toList.length := by rw [Array.length_toList]; rfl
      omega
    have hget : st[i.toNat]? = some (st.data.toList[i.toNat]) := by
      have hlt' : i.toNat < st.size := by omega
      rw [getElem?_pos st i.toNat hlt']
      rfl
    refine fin (.int .u8 ((st.data.toList.getD i.toNat 0).toNat : Int)) ?_ (VS_int _ _)
    rw [e1, hy]
    simp [Instr.index, asIntOf, run_underlying hT, h3.1, hget, List.getD_eq_getElem?_getD, List.getElem?_eq_getElem hlt]
  · simp only [eval_fail] at he

theorem VC_get {E : Env} : ∀ (c : AVal) (vs : List Value) (i : Nat) (v : AVal), VC E c vs → c.list[i]? = some v → ∃ y, vs[i]? = some y ∧ VS E v y := by
  intro c
  induction c with
  | cons x y _ ih =>
    intro vs i v hc hi
    simp only [VC] at hc
    obtain ⟨u, vs', cs, rfl, hV, hO, hc⟩ := hc
    cases i with
    | zero =>
      simp only [AVal.list, List.getElem?_cons_zero, Option.some.injEq] at hi
      subst hi
      exact ⟨u, rfl, VS.of hV hO⟩
    | succ i =>
      simp only [AVal.list, List.getElem?_cons_succ] at hi ⊢
      exact ih vs' i v hc hi
  | _ => intro vs i v hc hi; simp [AVal.list] at hi

theorem extract_runs (h : Inv C g β s a w) {x : Operand} {i : Nat} (ho : o.op = .extract x i) {v : AVal} (he : (Out.opt ((s.ev x).list[i]?)).eval = some v) : Runs P o a w (Sts C (s.put o.dst v)) := by
  have hx := h.ev x
  have he := eval_opt.1 he
  cases hc : s.ev x with
  | cons p q =>
    rw [hc] at hx he
    obtain ⟨vs, hy, hVC⟩ := hx
    obtain ⟨y, hv, hVS⟩ := VC_get _ vs i v hVC he
    refine h.value hVS (exec_value (f := Instr.extract (a.eval x) i) (by simp only [execOp, ho]) ?_)
    rw [hy]
    simp [Instr.extract, hv]
  | _ => rw [hc] at he; simp [AVal.list] at he

theorem VC_caps (h : Inv C g β s a w) : ∀ (l : List Operand), celledList (capsOf s l) = true → VC (s.env w g β) (capsOf s l) (l.map a.eval)
  | [], _ => by simp [capsOf, VC]
  | x :: xs, hc => by
    simp only [capsOf, celledList, Bool.and_eq_true] at hc
    obtain ⟨cs, hV, hO⟩ := (h.ev x).celled hc.1
    simp only [capsOf, VC, List.map_cons]
    exact ⟨_, _, cs, rfl, hV, hO, VC_caps h xs hc.2⟩

theorem makeFunc_runs (h : Inv C g β s a w) {f : FuncId} {first caps : Array Operand} (ho : o.op = .makeFunc (.func f) first caps) (h1 : first.isEmpty = true) (h2 : celledList (capsOf s caps.toList) = true) :
    Runs P o a w (Sts C (s.put o.dst (.fn f (capsOf s caps.toList)))) := by
  have hf : first = #[] := by simpa using h1
  refine h.value (x := .func (.func f) #[] (caps.toList.map a.eval).toArray) ⟨_, ?_, rfl⟩ (exec_value (f := Instr.makeFunc (.func f) (first.map a.eval) (caps.map a.eval)) (by simp only [execOp, ho]) ?_)
  · simp only [V]
    exact ⟨_, rfl, VC_caps h _ h2⟩
  · subst hf
    have : caps.map a.eval = (caps.toList.map a.eval).toArray := by apply Array.ext'; simp
    simp [Instr.makeFunc, this]

theorem toArr_runs (h : Inv C g β s a w) {T : TypeId} {x : Operand} (ho : o.op = .sliceToArrayPointer T x) {s' : AS} (he : (toArrA P s o.dst T (s.ev x)).eval = some s') : Runs P o a w (Sts C s') := by
  have hx := h.ev x
  unfold toArrA at he
  split at he
  · rename_i n e hT
    split at he
    · rename_i t ht
      obtain ⟨h1, h2⟩ := eval_guard.1 he
      obtain ⟨l, h3, h4⟩ := eval_bind.1 h2
      obtain ⟨h5, h6⟩ := eval_chk.1 h4
      obtain rfl := eval_ok.1 h6
      simp only [Bool.and_eq_true, Bool.not_eq_true', beq_iff_eq, beq_eq_false_iff_ne, decide_eq_true_eq] at h1 h5
      obtain ⟨⟨hz, hn⟩, hz0⟩ := h1
      obtain ⟨g1, i1, e1, t1, cs, hR, hO⟩ := toTy_sound h hx h3
      simp only [Rep] at hR
      obtain ⟨ad, cap, vs, rfl, hlc, hsome, hrow, hch⟩ := hR
      have hO' : [Value.slice ad (List.length l) cap] = [a.eval x] := hO
      have hy : a.eval x = .slice ad (List.length l) cap := by simpa using hO'.symm
      have hlen := Chunks.length (fun c x hx => Rep.size hx) hch
      have h0 : 0 < vs.length := by rw [hlen]; exact Nat.mul_pos (by omega) (by omega)
      obtain ⟨bb, off, e2, _⟩ := hrow 0 vs[0] (by simp [h0])
      subst e2
      refine .inl ⟨.pointer (some ⟨bb, off, none⟩), w, ?_, g1, β, i1.put o.dst ⟨_, ?_, rfl⟩⟩
      · refine exec_value (f := Instr.arrayAt T (a.eval x)) (by simp only [execOp, ho]) ?_
        rw [hy]
        have : ¬ List.length l < n := by omega
        simp [Instr.arrayAt, run_underlying hT, this]
      · simp only [V]
        refine ⟨bb, off, vs.take (n * t.size), rfl, fun j u hj => ?_, ?_⟩
        · rw [List.getElem?_take] at hj
          split at hj
          · exact hrow j u hj
          · cases hj
        · simp only [Rep]
          exact ⟨by simp; omega, Chunks.take (fun _ _ hx => hx.size) n hch⟩
    · simp only [eval_fail] at he
  · simp only [eval_fail] at he

end
end Go.Ab
