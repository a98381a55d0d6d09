/-
  Soundness of the operations, fifth part: slices.
-/
import Derived.Test.YtdmpbapgnkdjpaaAb8
namespace Go.Ab

section
variable {P : Program} {C : Ctx} {g : Nat → Lab} {β : Id → Option Pl} {s : AS} {a : Act} {w : World} {o : Oper}

/-! ### Slices' bounds -/

theorem asInt_of {E : Env} {v : AVal} {y : Value} (h : VS E v y) {n : Int} (he : (asInt v).eval = some n) : ∃ k, y = .int k n := by
  unfold asInt at he
  split at he
  · rename_i k m
    obtain rfl := eval_ok.1 he
    exact ⟨k, int_of h⟩
  · simp only [eval_fail] at he

theorem run_bound {k : IntKind} {i : Int} {y : Nat} (code : BoundsCode) (h : 0 ≤ i ∧ i ≤ (y : Int)) : (Instr.sliceBound (.int k i) y code).run P w = .ok i.toNat w :=
  run_sliceBound w k i y code h.1 h.2

/-- Bounds within the length. -/
theorem bounds_sound (h : Inv C g β s a w) {n cap : Nat} (hn : n ≤ cap) {lo hi : Option Operand} {r : Nat × Nat} (he : (bounds s n lo hi).eval = some r) (isS : Bool) :
    (Instr.sliceBounds isS n cap (lo.map a.eval) (hi.map a.eval) none).run P w = .ok (r.1, r.2, cap) w ∧ r.1 ≤ r.2 ∧ r.2 ≤ n := by
  unfold bounds at he
  obtain ⟨hh, h1, h2⟩ := eval_bind.1 he
  obtain ⟨ll, h3, h4⟩ := eval_bind.1 h2
  obtain rfl := eval_ok.1 h4
  have hi1 : hh ≤ n ∧ ∀ y, hi.map a.eval = some y → ∃ k i, y = .int k i ∧ 0 ≤ i ∧ i ≤ (n : Int) ∧ hh = i.toNat := by
    cases hi with
    | none =>
      simp only at h1
      obtain rfl := eval_ok.1 h1
      exact ⟨Nat.le_refl _, fun y hy => by cases hy⟩
    | some x =>
      simp only at h1
      obtain ⟨i, q1, q2⟩ := eval_bind.1 h1
      obtain ⟨q3, q4⟩ := eval_chk.1 q2
      obtain rfl := eval_ok.1 q4
      simp only [decide_eq_true_eq] at q3
      obtain ⟨k, hk⟩ := asInt_of (h.ev x) q1
      refine ⟨by omega, fun y hy => ?_⟩
      simp only [Option.map_some, Option.some.injEq] at hy
      exact ⟨k, i, by rw [← hy]; exact hk, q3.1, q3.2, rfl⟩
  have hi0 : hi.map a.eval = none → hh = n := by
    intro hy
    cases hi with
    | none => simp only at h1; exact (eval_ok.1 h1).symm
    | some x => cases hy
  have lo1 : ll ≤ hh ∧ ∀ y, lo.map a.eval = some y → ∃ k i, y = .int k i ∧ 0 ≤ i ∧ i ≤ (hh : Int) ∧ ll = i.toNat := by
    cases lo with
    | none =>
      simp only at h3
      obtain rfl := eval_ok.1 h3
      exact ⟨Nat.zero_le _, fun y hy => by cases hy⟩
    | some x =>
      simp only at h3
      obtain ⟨i, q1, q2⟩ := eval_bind.1 h3
      obtain ⟨q3, q4⟩ := eval_chk.1 q2
      obtain rfl := eval_ok.1 q4
      simp only [decide_eq_true_eq] at q3
      obtain ⟨k, hk⟩ := asInt_of (h.ev x) q1
      refine ⟨by omega, fun y hy => ?_⟩
      simp only [Option.map_some, Option.some.injEq] at hy
      exact ⟨k, i, by rw [← hy]; exact hk, q3.1, q3.2, rfl⟩
  have lo0 : lo.map a.eval = none → ll = 0 := by
    intro hy
    cases lo with
    | none => simp only at h3; exact (eval_ok.1 h3).symm
    | some x => cases hy
  refine ⟨?_, lo1.1, hi1.1⟩
  unfold Instr.sliceBounds
  cases hhi : hi.map a.eval with
  | none =>
    obtain rfl := hi0 hhi
    cases hlo : lo.map a.eval with
    | none =>
      obtain rfl := lo0 hlo
      rfl
    | some y =>
      obtain ⟨k, i, rfl, q1, q2, rfl⟩ := lo1.2 y hlo
      simp only [Sem.run_bind, Sem.run_pure, Result.andThen_ok, run_bound _ ⟨q1, q2⟩]
  | some z =>
    obtain ⟨k', i', rfl, p1, p2, rfl⟩ := hi1.2 z hhi
    have hb : ∀ code, (Instr.sliceBound (.int k' i') cap code).run P w = .ok i'.toNat w := fun code => run_bound code ⟨p1, by omega⟩
    cases hlo : lo.map a.eval with
    | none =>
      obtain rfl := lo0 hlo
      simp only [Sem.run_bind, Sem.run_pure, Result.andThen_ok, hb]
    | some y =>
      obtain ⟨k, i, rfl, q1, q2, rfl⟩ := lo1.2 y hlo
      simp only [Sem.run_bind, Sem.run_pure, Result.andThen_ok, hb, run_bound _ ⟨q1, q2⟩]

theorem elemSize_slice {T : TypeId} {z : Nat} (h1 : elemSize P T = some z) (h2 : isArr P T = none) : ∃ e, P.underlying T = some (.slice e) ∧ P.cellsOf e = z ∧ 0 < z := by
  unfold elemSize at h1
  unfold isArr at h2
  split at h1
  · rename_i n e hT; rw [hT] at h2; cases h2
  · rename_i e hT
    cases hc : P.cellsOf e with
    | zero => rw [hc] at h1; cases h1
    | succ k =>
      rw [hc] at h1
      simp only [Option.some.injEq] at h1
      exact ⟨e, hT, by omega, by omega⟩
  · cases h1

theorem elemSize_arr {T : TypeId} {z n : Nat} (h1 : elemSize P T = some z) (h2 : isArr P T = some n) : ∃ e, P.underlying T = some (.array n e) ∧ P.cellsOf e = z ∧ 0 < z := by
  unfold elemSize at h1
  unfold isArr at h2
  split at h1
  · rename_i n e hT
    rw [hT] at h2
    simp only [Option.some.injEq] at h2
    subst h2
    cases hc : P.cellsOf e with
    | zero => rw [hc] at h1; cases h1
    | succ k =>
      rw [hc] at h1
      simp only [Option.some.injEq] at h1
      exact ⟨e, hT, by omega, by omega⟩
  · rename_i e hT; rw [hT] at h2; cases h2
  · cases h1

/-- sizeOf runs wherever the type is one of the program's. -/
theorem run_sizeOf' {e : TypeId} {z : Nat} (h : P.cellsOf e = z) (hz : 0 < z) (w : World) : (sizeOf e).run P w = .ok z w := by
  unfold Program.cellsOf at h
  cases hi : P.info? e with
  | none => rw [hi] at h; simp at h; omega
  | some i => rw [hi] at h; rw [run_sizeOf hi]; simpa using h

theorem slice_runs (h : Inv C g β s a w) {T : TypeId} {x : Operand} {lo hi : Option Operand} (ho : o.op = .slice T x lo hi none) {v : AVal} (he : (sliceA P s T (s.ev x) lo hi).eval = some v) : Runs P o a w (Sts C (s.put o.dst v)) := by
  have hx := h.ev x
  have fin : ∀ z, (Instr.sliceAt T (a.eval x) (lo.map a.eval) (hi.map a.eval) none).run P w = .ok z w → VS (s.env w g β) v z → Runs P o a w (Sts C (s.put o.dst v)) := by
    intro z h1 h2
    exact h.value h2 (exec_value (f := Instr.sliceAt T (a.eval x) (lo.map a.eval) (hi.map a.eval) none) (by simp only [execOp, ho, Option.map_none]) h1)
  have sl : ∀ (e : TypeId) (z : Nat) (ad : Option Addr) (len cap : Nat) (b : Nat × Nat), P.underlying T = some (.slice e) → P.cellsOf e = z → 0 < z → a.eval x = .slice ad len cap → len ≤ cap → (bounds s len lo hi).eval = some b →
      (Instr.sliceAt T (a.eval x) (lo.map a.eval) (hi.map a.eval) none).run P w = .ok (.slice (if cap = b.1 then ad else ad.map (·.add (b.1 * z))) (b.2 - b.1) (cap - b.1)) w ∧ b.1 ≤ b.2 ∧ b.2 ≤ len := by
    intro e z ad len cap b hT hz hpos hy hlc hb
    obtain ⟨h1, h2, h3⟩ := bounds_sound (P := P) h hlc hb true
    refine ⟨?_, h2, h3⟩
    rw [hy]
    simp [Instr.sliceAt, Instr.slice, run_underlying hT, h1, run_sizeOf' hz hpos]
  have ar : ∀ (e : TypeId) (z n : Nat) (ad : Addr) (b : Nat × Nat), P.underlying T = some (.array n e) → P.cellsOf e = z → 0 < z → a.eval x = .pointer (some ad) → (bounds s n lo hi).eval = some b →
      (Instr.sliceAt T (a.eval x) (lo.map a.eval) (hi.map a.eval) none).run P w = .ok (.slice (some (if n = b.1 then ad else ad.add (b.1 * z))) (b.2 - b.1) (n - b.1)) w ∧ b.1 ≤ b.2 ∧ b.2 ≤ n := by
    intro e z n ad b hT hz hpos hy hb
    obtain ⟨h1, h2, h3⟩ := bounds_sound (P := P) h (Nat.le_refl n) hb false
    refine ⟨?_, h2, h3⟩
    rw [hy]
    simp [Instr.sliceAt, Instr.sureAddr, run_underlying hT, h1, run_sizeOf' hz hpos]
  have cutR : ∀ (t : Ty) (z : Nat) (ad ad' : Option Addr) (len' cap' : Nat) (vs : List Value) (l : List t.den) (b : Nat × Nat), z = t.size → RowAt (s.env w g β) ad vs → Chunks (Rep (s.env w g β) t) vs l → b.1 ≤ b.2 → b.2 ≤ l.length →
      (∀ bb off, ad = some ⟨bb, off, none⟩ → b.1 < b.2 → ad' = some ⟨bb, off + b.1 * z, none⟩) → (b.1 < b.2 → ad'.isSome = true) → len' = b.2 - b.1 → len' ≤ cap' → VS (s.env w g β) (.d (.slice t) (cut l b.1 (b.2 - b.1))) (.slice ad' len' cap') := by
    intro t z ad ad' len' cap' vs l b hz hr hc h1 h2 hadd hsome hlen hle
    subst hz hlen
    have hcl : (cut l b.1 (b.2 - b.1)).length = b.2 - b.1 := cut_length (by omega)
    refine ⟨_, ?_, rfl⟩
    simp only [V, Rep]
    refine ⟨ad', cap', (vs.drop (b.1 * t.size)).take ((b.2 - b.1) * t.size), by rw [hcl], by omega, by rw [hcl]; intro hp; exact hsome (by omega), ?_, chunks_cut hc b.1 _⟩
    intro i v hi
    rw [List.getElem?_take] at hi
    split at hi
    · rename_i hil
      rw [List.getElem?_drop] at hi
      obtain ⟨bb, off, e, hh⟩ := hr _ v hi
      have hlt : b.1 < b.2 := by
        rcases Nat.lt_or_ge b.1 b.2 with h' | h'
        · exact h'
        · rw [Nat.sub_eq_zero_of_le h', Nat.zero_mul] at hil; omega
      exact ⟨bb, _, hadd bb off e hlt, by rw [Nat.add_assoc]; exact hh⟩
    · cases hi
  unfold sliceA at he
  split at he
  · rename_i st hst
    rw [hst] at hx
    have e1 := str_of hx
    obtain ⟨h1, h2⟩ := eval_guard.1 he
    obtain ⟨b, h3, h4⟩ := eval_bind.1 h2
    obtain rfl := eval_ok.1 h4
    split at h1 <;> try (cases h1; done)
    rename_i hT
    obtain ⟨q1, q2, q3⟩ := bounds_sound (P := P) h (Nat.le_refl _) h3 false
    refine fin (.string (st.extract b.1 b.2)) ?_ (VS_str _)
    rw [e1]
    simp [Instr.sliceAt, Instr.slice, run_underlying hT, q1]
  · rename_i t l hl
    rw [hl] at hx
    obtain ⟨ad, cap, vs, hy, hlc, hsome, hrow, hch⟩ := slice_of hx
    obtain ⟨h1, h2⟩ := eval_guard.1 he
    obtain ⟨b, h3, h4⟩ := eval_bind.1 h2
    obtain rfl := eval_ok.1 h4
    split at h1 <;> try (cases h1; done)
    rename_i z hz1 hz2
    obtain ⟨e, hT, hz, hpos⟩ := elemSize_slice hz1 hz2
    have hzt : z = t.size := by simpa using h1
    obtain ⟨q1, q2, q3⟩ := sl e z ad _ cap b hT hz hpos hy hlc h3
    refine fin _ q1 (cutR t z ad _ _ _ vs l b hzt hrow hch q2 q3 ?_ ?_ rfl (by omega))
    · intro bb off e1 hlt
      rw [if_neg (by omega), e1]
      simp [Addr.add_lit]
    · intro hlt
      rw [if_neg (by omega)]
      have := hsome (by omega)
      cases ad <;> simp_all
  · rename_i hl
    rw [hl] at hx
    have hy := nils_of hx
    obtain ⟨h1, h2⟩ := eval_guard.1 he
    obtain ⟨b, h3, h4⟩ := eval_bind.1 h2
    obtain rfl := eval_ok.1 h4
    split at h1 <;> try (cases h1; done)
    rename_i z hz1 hz2
    obtain ⟨e, hT, hz, hpos⟩ := elemSize_slice hz1 hz2
    obtain ⟨q1, q2, q3⟩ := sl e z none 0 0 b hT hz hpos hy (Nat.le_refl _) h3
    have hb1 : b.1 = 0 := by omega
    have hb2 : b.2 = 0 := by omega
    refine fin _ q1 ?_
    rw [hb1, hb2]
    exact ⟨_, by simp [V], rfl⟩
  · rename_i id ver p c i len hl
    rw [hl] at hx
    obtain ⟨ad, cap, hy, hlc, hsome, hbnd, hcur⟩ := sref_of hx
    obtain ⟨r, hr1, he⟩ := eval_bind.1 he
    obtain ⟨h1, h2⟩ := eval_guard.1 he
    obtain ⟨b, h3, h4⟩ := eval_bind.1 h2
    obtain rfl := eval_ok.1 h4
    split at h1 <;> try (cases h1; done)
    rename_i z hz1 hz2
    obtain ⟨e, hT, hz, hpos⟩ := elemSize_slice hz1 hz2
    have hzt : z = r.2.1.size := by simpa using h1
    obtain ⟨q1, q2, q3⟩ := sl e z ad _ cap b hT hz hpos hy hlc h3
    refine fin _ q1 ⟨_, ?_, rfl⟩
    simp only [V]
    refine ⟨_, _, rfl, by omega, ?_, hbnd, fun hc => ?_⟩
    · intro hlt
      rw [if_neg (by omega)]
      have := hsome (by omega)
      cases ad <;> simp_all
    · have hcur := hcur hc
      cases hp : β id with
      | none =>
        have hp' : (s.env w g β).β id = none := hp
        rw [hp'] at hcur ⊢
        simp only at hcur ⊢
        obtain ⟨rfl, rfl, rfl⟩ := hcur
        refine ⟨by simp, by omega, by omega⟩
      | some pl =>
        have hp' : (s.env w g β).β id = some pl := hp
        rw [hp'] at hcur ⊢
        simp only at hcur ⊢
        refine ⟨fun hh => ?_, fun hpn hi0 => ?_⟩
        · by_cases hcb : cap = b.1
          · rw [if_pos hcb]
            have hb0 : b.1 = 0 := by omega
            rw [hb0, Nat.zero_mul, Nat.add_zero]
            exact hcur.1 (.inr (by omega))
          · rw [if_neg hcb, hcur.1 (by omega), ← hzt]
            simp [Addr.add_lit]
        · have := hcur.2 hpn (by omega)
          omega
  · rename_i id ver p n hl
    rw [hl] at hx
    obtain ⟨ad, hy, hbnd, hcur⟩ := ptr_of hx
    obtain ⟨r, hr1, he⟩ := eval_bind.1 he
    obtain ⟨h1, h2⟩ := eval_guard.1 he
    obtain ⟨h5, h6⟩ := eval_chk.1 h2
    obtain ⟨b, h3, h4⟩ := eval_bind.1 h6
    obtain rfl := eval_ok.1 h4
    split at h1 <;> try (cases h1; done)
    rename_i z m hz1 hz2
    obtain ⟨e, hT, hz, hpos⟩ := elemSize_arr hz1 hz2
    have hzt : z = r.2.1.size := by simpa using h1
    rw [hz2, Option.getD_some] at h3
    obtain ⟨q1, q2, q3⟩ := ar e z m ad b hT hz hpos hy h3
    obtain ⟨fr, c0, hent, _⟩ := row_sound rfl h.objs hr1
    obtain ⟨pl, hp, had⟩ := hcur ⟨fr, c0, hent⟩
    refine fin _ q1 ⟨_, ?_, rfl⟩
    simp only [V]
    refine ⟨_, _, rfl, by omega, fun _ => rfl, hbnd, fun _ => ?_⟩
    rw [hp]
    simp only
    refine ⟨fun hh => ?_, fun hpn => by simp at hpn⟩
    rw [had]
    by_cases hcb : m = b.1
    · have hb0 : b.1 = 0 := by omega
      rw [if_pos hcb, hb0, Nat.zero_mul, Nat.add_zero]
    · rw [if_neg hcb, ← hzt, Addr.add_lit]
  · rename_i n t l hl
    rw [hl] at hx
    obtain ⟨bb, off, vs, hy, hrow, hR⟩ := rptr_of hx
    obtain ⟨h1, h2⟩ := eval_guard.1 he
    obtain ⟨b, h3, h4⟩ := eval_bind.1 h2
    obtain rfl := eval_ok.1 h4
    split at h1 <;> try (cases h1; done)
    rename_i z m hz1 hz2
    obtain ⟨e, hT, hz, hpos⟩ := elemSize_arr hz1 hz2
    simp only [Bool.and_eq_true, beq_iff_eq] at h1
    obtain ⟨hzt, rfl⟩ := h1
    obtain ⟨q1, q2, q3⟩ := ar e z m _ b hT hz hpos hy h3
    simp only [Rep] at hR
    obtain ⟨hlen, hch⟩ := hR
    refine fin _ q1 (cutR t z (some ⟨bb, off, none⟩) _ _ _ vs l b hzt hrow hch q2 (by omega) ?_ (fun _ => rfl) rfl (by omega))
    intro bb' off' e1 hlt
    simp only [Option.some.injEq, Addr.mk.injEq, and_true] at e1
    obtain ⟨rfl, rfl⟩ := e1
    rw [if_neg (by omega), Addr.add_lit]
  · simp only [eval_fail] at he

end
end Go.Ab
