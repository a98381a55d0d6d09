/-
  One operation of a region, with its guard.
-/
import Derived.Test.YtdmpbapgnkdjpaaAb18
namespace Go.Ab

def StepK (P : Program) (ops : Array Oper) (o : Oper) (a : Act) (w : World) (K : Act → World → Prop) : Prop :=
  if Region.wanted o (yielded ops a.tmps) then Runs P o a w K else K (a.put o.dst undef) w

theorem StepK.mono {P : Program} {ops : Array Oper} {o : Oper} {a : Act} {w : World} {K K' : Act → World → Prop} (h : StepK P ops o a w K) (hk : ∀ a w, K a w → K' a w) : StepK P ops o a w K' := by
  unfold StepK at *
  split
  · rename_i hw; rw [if_pos hw] at h; exact h.mono hk
  · rename_i hw; rw [if_neg hw] at h; exact hk _ _ h

/-- Something comes of it. -/
theorem Runs.some {P : Program} {o : Oper} {a : Act} {w : World} {K : Act → World → Prop} (h : Runs P o a w K) : ∃ a' w', K a' w' := by
  rcases h with ⟨x, w', _, h⟩ | ⟨w', _, h⟩ | ⟨f, args, w', _, h⟩
  · exact ⟨_, _, h⟩
  · exact ⟨_, _, h⟩
  · obtain ⟨e, w'', _, ⟨x, _, hx⟩, _⟩ := h []
    exact ⟨_, _, hx⟩

theorem StepK.some {P : Program} {ops : Array Oper} {o : Oper} {a : Act} {w : World} {K : Act → World → Prop} (h : StepK P ops o a w K) : ∃ a' w', K a' w' := by
  unfold StepK at h
  split at h
  · exact h.some
  · exact ⟨_, _, h⟩

theorem StepK.wpList {P : Program} {ops : Array Oper} {o : Oper} {a : Act} {w : World} {Q : Exit → Act → World → Prop} {l : List Oper} (h : StepK P ops o a w (wpList P ops Q l)) : Go.wpList P ops Q (o :: l) a w := by
  unfold StepK at h
  unfold Go.wpList
  split
  · rename_i hw; rw [if_pos hw] at h; exact .inl h.wp
  · rename_i hw; rw [if_neg hw] at h; exact h

theorem StepK.wpOp {P : Program} {ops : Array Oper} {o : Oper} {i : Nat} {a : Act} {w : World} {Q : Exit → Act → World → Prop} {K : Act → World → Prop} (ho : ops[i]? = Option.some o) (h : StepK P ops o a w K) : Go.wpOp P ops Q i K a w := by
  unfold StepK at h
  unfold Go.wpOp
  simp only [ho]
  split
  · rename_i hw; rw [if_pos hw] at h; exact .inl h.wp
  · rename_i hw; rw [if_neg hw] at h; exact h

theorem put_same {s : AS} {q : Nat} {v : AVal} (h : s.slot q = v) (hq : q < s.slots.length) : s.put (some q) v = s := by
  have hv : s.slots[q] = v := by simpa [AS.slot, List.getD_eq_getElem?_getD, hq] using h
  simp only [AS.put]
  rw [← hv, List.set_getElem_self]

theorem slot_lt {s : AS} {q : Nat} {t : Ty} {x : t.den} (h : s.slot q = .d t x) : q < s.slots.length := by
  rcases Nat.lt_or_ge q s.slots.length with h' | h'
  · exact h'
  · simp [AS.slot, List.getD_eq_getElem?_getD, List.getElem?_eq_none h'] at h

/-- One operation, directly. -/
def gop1 (P : Program) (Γ : Gam) (objs : List Nat) (ops : Array Oper) (o : Oper) (s : AS) : Option AS :=
  match o.guard with
  | none => (aop P Γ objs o s).eval
  | some (j, want) => match (ops[j]?).bind (·.dst) with
    | some q => match s.slot q with
      | .d .bool b => if b = want then (aop P Γ objs o s).eval else some (s.put o.dst .nil)
      | .nil => some (s.put o.dst .nil)
      | _ => none
    | none => none

theorem gop_some {R : Type} {P : Program} {Γ : Gam} {objs : List Nat} {ops : Array Oper} {o : Oper} {s : AS} {k : AS → Option R} {r : R} (h : gop P Γ objs ops o s k = some r) : ∃ s', gop1 P Γ objs ops o s = some s' ∧ k s' = some r := by
  unfold gop at h
  unfold gop1
  split at h
  · rename_i hg
    simp only [hg]
    exact run_some.1 h
  · rename_i j want hg
    simp only [hg]
    split at h
    · rename_i q hq
      simp only [hq]
      split at h
      · rename_i b hb
        have e := put_same hb (slot_lt hb)
        simp only [hb]
        cases want <;> cases b <;> simp only [sel] at h <;> rw [e] at h
        · obtain ⟨s', h1, h2⟩ := run_some.1 h
          exact ⟨s', by simpa using h1, h2⟩
        · exact ⟨_, by simp, h⟩
        · exact ⟨_, by simp, h⟩
        · obtain ⟨s', h1, h2⟩ := run_some.1 h
          exact ⟨s', by simpa using h1, h2⟩
      · rename_i hb
        simp only [hb]
        exact ⟨_, rfl, h⟩
      · cases h
    · cases h

section
variable {P : Program} {C : Ctx} {g : Nat → Lab} {β : Id → Option Pl} {s : AS} {a : Act} {w : World} {o : Oper}

theorem yielded_of (h : Inv C g β s a w) {ops : Array Oper} {j q : Nat} {b : Bool} (hq : (ops[j]?).bind (·.dst) = some q) (hb : s.slot q = .d .bool b) : yielded ops a.tmps j = some b := by
  have hv := h.slots q
  rw [hb] at hv
  have hv := bool_of hv
  have hl := slot_lt hb
  rw [← h.size] at hl
  unfold yielded
  rw [hq, Option.bind_some]
  have : a.tmps[q]? = some (.bool b) := by
    rw [Array.getElem?_eq_getElem hl]
    simpa [Array.getD, hl] using hv
  rw [this]

theorem yielded_not (h : Inv C g β s a w) {ops : Array Oper} {j q : Nat} (hq : (ops[j]?).bind (·.dst) = some q) (hb : s.slot q = .nil) : yielded ops a.tmps j = none := by
  have hv := h.slots q
  rw [hb] at hv
  have hv : a.tmps.getD q undef = .tuple #[] := hv
  unfold yielded
  rw [hq, Option.bind_some]
  split
  · rename_i b hb
    rw [Array.getD_eq_getD_getElem?, hb] at hv
    cases hv
  · rfl

theorem gop1_runs {Γ : Gam} (hΓ : Sound P Γ) {objs : List Nat} {ops : Array Oper} (h : Sts C s a w) {s' : AS} (he : gop1 P Γ objs ops o s = some s') : StepK P ops o a w (Sts C s') := by
  obtain ⟨g, β, h⟩ := h
  unfold gop1 at he
  unfold StepK
  split at he
  · rename_i hg
    have : Region.wanted o (yielded ops a.tmps) = true := by simp [Region.wanted, hg]
    rw [if_pos this]
    exact aop_runs hΓ h he
  · rename_i j want hg
    split at he
    · rename_i q hq
      split at he
      · rename_i b hb
        have hy := yielded_of h hq hb
        have hw : Region.wanted o (yielded ops a.tmps) = (b == want) := by simp [Region.wanted, hg, hy]
        rw [hw]
        by_cases e : b = want
        · rw [if_pos e] at he
          rw [if_pos (by simp [e])]
          exact aop_runs hΓ h he
        · rw [if_neg e] at he
          rw [if_neg (by simp [e])]
          simp only [Option.some.injEq] at he
          subst he
          exact ⟨g, β, h.put o.dst rfl⟩
      · rename_i hb
        have hy := yielded_not h hq hb
        have hw : Region.wanted o (yielded ops a.tmps) = false := by simp [Region.wanted, hg, hy]
        rw [hw, if_neg (by simp)]
        simp only [Option.some.injEq] at he
        subst he
        exact ⟨g, β, h.put o.dst rfl⟩
      · cases he
    · cases he

theorem nd_some {R : Type} {x y : Option R} {r : R} (h : nd x y = some r) : x = some r ∧ y = some r := by
  unfold nd at h
  split at h
  · rename_i e; exact ⟨h, e ▸ h⟩
  · cases h

theorem nilArg_run (h : Inv C g β s a w) {x y : Operand} {n : Nat} (hn : nilArg s x y = some n) {T : TypeId} (hT : eqOp.isSl P T = true) : ∃ b, (0 < n → b = false) ∧ (Op.equal T (a.eval x) (a.eval y)).run P w = .ok b w ∧
    isAggV (a.eval x) = false ∧ a.eval x ≠ .nilIface ∧ ∀ op, binOp op T (a.eval x) (a.eval y) = (match op with | .eql => do pure (.bool (← Op.equal T (a.eval x) (a.eval y))) | .neq => do pure (.bool (!(← Op.equal T (a.eval x) (a.eval y)))) | _ => binOp op T (a.eval x) (a.eval y)) := by
  have hx := h.ev x
  have hy := h.ev y
  unfold eqOp.isSl at hT
  split at hT <;> try (cases hT; done)
  rename_i e hU
  unfold nilArg at hn
  split at hn
  · rename_i t l h1 h2
    rw [h1] at hx; rw [h2] at hy
    obtain ⟨ad, cap, vs, hv, _, hs, _⟩ := slice_of hx
    have hv2 := nils_of hy
    rw [hv, hv2]
    refine ⟨ad.isNone, fun hp => ?_, ?_, rfl, by simp, fun op => by cases op <;> rfl⟩
    · obtain rfl := Option.some.inj hn
      obtain ⟨ad', rfl⟩ := Option.isSome_iff_exists.1 (hs hp)
      rfl
    · cases ad with
      | none => exact equal_run fun d => by simp [Op.equalIn, run_underlying hU]
      | some ad => exact equal_run fun d => by simp [Op.equalIn, run_underlying hU]
  · rename_i t l h1 h2
    rw [h1] at hx; rw [h2] at hy
    obtain ⟨ad, cap, vs, hv, _, hs, _⟩ := slice_of hy
    have hv2 := nils_of hx
    rw [hv, hv2]
    refine ⟨ad.isNone, fun hp => ?_, ?_, rfl, by simp, fun op => by cases op <;> rfl⟩
    · obtain rfl := Option.some.inj hn
      obtain ⟨ad', rfl⟩ := Option.isSome_iff_exists.1 (hs hp)
      rfl
    · exact equal_run fun d => by simp [Op.equalIn, run_underlying hU]
  · cases hn

theorem nilTest_runs (h : Inv C g β s a w) {x y : Operand} {n : Nat} {T U : TypeId} (hn : nilArg s x y = some n) (hT : eqOp.isSl P T = true) :
    (o.op = .binOp .eql T x y U → ∃ b, (0 < n → b = false) ∧ Runs P o a w (Sts C (s.put o.dst (.d .bool b)))) ∧ (o.op = .binOp .neq T x y U → ∃ b, (0 < n → b = true) ∧ Runs P o a w (Sts C (s.put o.dst (.d .bool b)))) := by
  obtain ⟨b, h1, h2, h3, h4, h5⟩ := nilArg_run (w := w) h hn hT
  have hg : ∀ op, (eqGuard op T x y (a.eval x) (a.eval y)).run P w = .ok () w := fun op => eqGuard_plain h4 h3
  refine ⟨fun ho => ⟨b, h1, h.value (VS_bool b) ?_⟩, fun ho => ⟨!b, fun hp => by rw [h1 hp]; rfl, h.value (VS_bool (!b)) ?_⟩⟩
  · have h6 : (binOp .eql T (a.eval x) (a.eval y)).run P w = .ok (.bool b) w := by rw [h5 .eql]; simp [h2]
    simp [execOp, ho, hg, h6]
  · have h6 : (binOp .neq T (a.eval x) (a.eval y)).run P w = .ok (.bool (!b)) w := by rw [h5 .neq]; simp [h2]
    simp [execOp, ho, hg, h6]

theorem sel_some {R : Type} {c : Bool} {x y : Option R} {r : R} (h : sel c x y = some r) : (c = true ∧ x = some r) ∨ (c = false ∧ y = some r) := by
  cases c
  · exact .inr ⟨rfl, h⟩
  · exact .inl ⟨rfl, h⟩

theorem gopN_runs {Γ : Gam} (hΓ : Sound P Γ) {objs : List Nat} {ops : Array Oper} {R : Type} {k : AS → Option R} {r : R} (h : Sts C s a w) (he : gopN P Γ objs ops o s k = some r) :
    StepK P ops o a w fun a' w' => ∃ s', Sts C s' a' w' ∧ k s' = some r := by
  have plain : gop P Γ objs ops o s k = some r → StepK P ops o a w fun a' w' => ∃ s', Sts C s' a' w' ∧ k s' = some r := fun he => by
    obtain ⟨s1, h1, h2⟩ := gop_some he
    exact (gop1_runs hΓ h h1).mono fun a' w' hs => ⟨s1, hs, h2⟩
  have step : ∀ (hg : o.guard = none) (b : Bool), Runs P o a w (Sts C (s.put o.dst (.d .bool b))) → k (s.put o.dst (.d .bool b)) = some r → StepK P ops o a w fun a' w' => ∃ s', Sts C s' a' w' ∧ k s' = some r := fun hg b hr hk => by
    unfold StepK
    have : Region.wanted o (yielded ops a.tmps) = true := by simp [Region.wanted, hg]
    rw [if_pos this]
    exact hr.mono fun a' w' hs => ⟨_, hs, hk⟩
  unfold gopN at he
  split at he
  · rename_i T x y U hg ho
    split at he
    · rename_i n hn hT
      obtain ⟨g, β, hi⟩ := h
      obtain ⟨b, hb, hr⟩ := (nilTest_runs (o := o) (U := U) hi hn hT).1 ho
      refine step hg b hr ?_
      rcases sel_some he with ⟨hc, hk⟩ | ⟨_, hk⟩
      · rw [hb (by simpa using hc)]; exact hk
      · obtain ⟨k1, k2⟩ := nd_some hk
        cases b
        · exact k2
        · exact k1
    · exact plain he
  · rename_i T x y U hg ho
    split at he
    · rename_i n hn hT
      obtain ⟨g, β, hi⟩ := h
      obtain ⟨b, hb, hr⟩ := (nilTest_runs (o := o) (U := U) hi hn hT).2 ho
      refine step hg b hr ?_
      rcases sel_some he with ⟨hc, hk⟩ | ⟨_, hk⟩
      · rw [hb (by simpa using hc)]; exact hk
      · obtain ⟨k1, k2⟩ := nd_some hk
        cases b
        · exact k2
        · exact k1
    · exact plain he
  · exact plain he

/-- A region in the order of its text. -/
theorem gops_wpList {Γ : Gam} (hΓ : Sound P Γ) {objs : List Nat} {ops : Array Oper} {R : Type} {Q : Exit → Act → World → Prop} : ∀ (l : List Oper) {s : AS} {a : Act} {w : World} {k : AS → Option R} {r : R}, Sts C s a w → gops P Γ objs ops l s k = some r →
    (∀ s' a' w', Sts C s' a' w' → k s' = some r → Q .normal a' w') → wpList P ops Q l a w
  | [], s, a, w, k, r, h, he, hk => hk s a w h he
  | o :: l, s, a, w, k, r, h, he, hk => by
    have he : gopN P Γ objs ops o s (fun s' => s'.seen fun s' => gops P Γ objs ops l s' k) = some r := he
    simp only [AS.seen_eq] at he
    exact ((gopN_runs hΓ h he).mono fun a' w' ⟨s', hs, h2⟩ => gops_wpList hΓ l hs h2 hk).wpList

end
end Go.Ab
