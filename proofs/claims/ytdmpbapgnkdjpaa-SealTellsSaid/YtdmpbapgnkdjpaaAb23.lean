/-
  Drawn regions, fourth part: two operations that have nothing to do with one another change places.
-/
import Derived.Test.YtdmpbapgnkdjpaaAb22
namespace Go.Ab

section
variable {P : Program} {Γ : Gam} {objs : List Nat} {ops : Array Oper} {o : Oper} {s t : AS}

/-! ### With its guard -/

def Loc (P : Program) (Γ : Gam) (objs : List Nat) (ops : Array Oper) (o : Oper) (s s' : AS) : Prop :=
  ∃ E, App o.dst E s s' ∧ Within (foot Γ ops s o) s E ∧ ∀ t, Agree (foot Γ ops s o) s t → ∃ t', gop1 P Γ objs ops o t = some t' ∧ App o.dst E t t'

theorem gop1_local {s' : AS} (he : gop1 P Γ objs ops o s = some s') : Loc P Γ objs ops o s s' := by
  unfold gop1 at he
  split at he
  · rename_i hg
    obtain ⟨E, h1, h2, h3⟩ := aop_local (ops := ops) he
    refine ⟨E, h1, h2, fun t ht => ?_⟩
    obtain ⟨t', h4, h5⟩ := h3 t ht
    exact ⟨t', by unfold gop1; simp only [hg]; exact h4, h5⟩
  · rename_i j want hg
    split at he
    · rename_i q hq
      split at he
      · rename_i b hb
        have hsl : ∀ t, Agree (foot Γ ops s o) s t → t.slot q = .d .bool b := fun t ht => by
          rw [ht.slots q (List.mem_append.2 (.inr (by unfold guardSlot; simp only [hg, hq]; simp)))]; exact hb
        by_cases e : b = want
        · rw [if_pos e] at he
          obtain ⟨E, h1, h2, h3⟩ := aop_local (ops := ops) he
          refine ⟨E, h1, h2, fun t ht => ?_⟩
          obtain ⟨t', h4, h5⟩ := h3 t ht
          exact ⟨t', by unfold gop1; simp only [hg, hq, hsl t ht, if_pos e]; exact h4, h5⟩
        · rw [if_neg e] at he
          simp only [Option.some.injEq] at he
          subst he
          exact ⟨⟨.nil, fun _ => none, []⟩, App.justPut _ _ _, ⟨fun _ _ h => by simp at h, fun _ h => by simp at h⟩, fun t ht => ⟨_, by unfold gop1; simp only [hg, hq, hsl t ht, if_neg e], App.justPut _ _ _⟩⟩
      · rename_i hb
        have hsl : ∀ t, Agree (foot Γ ops s o) s t → t.slot q = .nil := fun t ht => by
          rw [ht.slots q (List.mem_append.2 (.inr (by unfold guardSlot; simp only [hg, hq]; simp)))]; exact hb
        simp only [Option.some.injEq] at he
        subst he
        exact ⟨⟨.nil, fun _ => none, []⟩, App.justPut _ _ _, ⟨fun _ _ h => by simp at h, fun _ h => by simp at h⟩, fun t ht => ⟨_, by unfold gop1; simp only [hg, hq, hsl t ht], App.justPut _ _ _⟩⟩
      · cases he
    · cases he

theorem writes_congr (h : Agree (foot Γ ops s o) s t) : writes Γ t o = writes Γ s o := by
  have hws : ∀ id ∈ writes Γ s o, t.ent id = s.ent id := h.ws
  unfold writes at hws ⊢
  split
  · rename_i x v hop
    rw [h.ev (by rw [hop]; simp [Op.operands])]
  · rename_i T U x hop
    rw [h.ev (by rw [hop]; simp [Op.operands])]
  · rename_i c hop
    obtain ⟨cal, args, tys⟩ := c
    simp only [hop] at hws
    simp only
    split
    · split
      · rename_i x l ha
        rw [h.ev (by rw [hop]; simp only [Op.operands, Call.operands, List.nil_append, Array.toList_append, ha]; simp)]
      · rfl
    · rename_i F
      simp only at hws
      have hm : ∀ z, z = F ∨ z ∈ args.toList → z ∈ o.op.operands.toList := fun z hz => by
        rw [hop]
        simp only [Op.operands, Call.operands, Array.toList_append, List.mem_append]
        rcases hz with rfl | hz
        · exact .inl (by simp)
        · exact .inr hz
      have h1 : t.ev F = s.ev F := h.ev (hm F (.inl rfl))
      have h2 : args.toList.map t.ev = args.toList.map s.ev := List.map_congr_left fun x hx => h.ev (hm x (.inr hx))
      rw [h1]
      split
      · rename_i f caps hF
        simp only [hF] at hws
        rw [h2]
        split
        · rename_i en hen
          simp only [hen] at hws
          exact reach_congr _ _ _ fun id hid => by rw [hws id hid]
        · rfl
      · rfl
    · rfl
  · rfl

theorem foot_congr (h : Agree (foot Γ ops s o) s t) : foot Γ ops t o = foot Γ ops s o := by
  have h1 := writes_congr h
  have h2 : opIds t o = opIds s o := by
    unfold opIds
    unfold List.flatMap
    congr 1
    exact List.map_congr_left fun i hi => by rw [h.slots i (List.mem_append.2 (.inl hi))]
  unfold foot
  rw [h1, h2]

/-! ### Two operations -/

theorem meets_false {xs ys : List Id} (h : meets xs ys = false) {id : Id} (hx : id ∈ xs) : id ∉ ys := by
  intro hy
  have : meets xs ys = true := by
    unfold meets
    exact List.any_eq_true.2 ⟨id, hx, List.any_eq_true.2 ⟨id, hy, by simp⟩⟩
  rw [h] at this; cases this

theorem siteIn_false {d : Option Tmp} {ids : List Id} (h : siteIn d ids = false) {q : Nat} (hd : d = some q) (j : Nat) : Id.new q j ∉ ids := by
  intro hy
  have : siteIn d ids = true := by
    subst hd
    exact List.any_eq_true.2 ⟨_, hy, by simp⟩
  rw [h] at this; cases this

theorem hit_false {f g : Foot} (h : f.hit g = false) {q : Nat} (hd : f.dst = some q) : q ∉ g.slots ∧ g.dst ≠ some q := by
  unfold Foot.hit at h
  rw [hd] at h
  simp only [Bool.or_eq_false_iff, List.any_eq_false, decide_eq_true_eq, decide_eq_false_iff_not] at h
  exact ⟨fun hx => h.1 q hx rfl, h.2⟩

theorem slot_put_ne (s : AS) (d : Option Tmp) (v : AVal) (i : Nat) (h : d ≠ some i) : (s.put d v).slot i = s.slot i := by
  cases d with
  | none => rfl
  | some q => rw [slot_put, if_neg]; rintro ⟨rfl, _⟩; exact h rfl

theorem App.slot {d : Option Tmp} {E : Eff} {s s' : AS} (h : App d E s s') (i : Nat) (hi : d ≠ some i) : s'.slot i = s.slot i := by
  rw [← slot_put_ne s d E.v i hi]
  simp only [AS.slot, h.slots]

/-- Is a state behind an effect the same as ahead of it, where another footprint looks? -/
theorem agree_of {f f' : Foot} {E : Eff} {s s1 : AS} (ha : App f.dst E s s1) (hw : Within f s E) (hsub : ∀ id ∈ f'.ws, id ∈ f'.rs) (h1 : f.hit f' = false) (h2 : meets f.ws f'.rs = false) (h3 : meets f'.ws f.rs = false)
    (h4 : siteIn f.dst f'.rs = false) : (∀ i ∈ f'.slots, s1.slot i = s.slot i) ∧ (∀ id ∈ f'.ws, s1.ent id = s.ent id) ∧ (∀ id ∈ f'.rs, simO (s1.ent id) (s.ent id)) ∧ ∀ q, f'.dst = some q → s1.virgin q = s.virgin q := by
  have hup : ∀ id ∈ f'.rs, E.up id = none := fun id hid => by
    cases hu : E.up id with
    | none => rfl
    | some e =>
      rcases hw.up id e hu with ⟨h, _⟩ | ⟨q, j, hd, rfl⟩
      · exact absurd hid (meets_false h2 h)
      · exact absurd hid (siteIn_false h4 hd j)
  refine ⟨fun i hi => ha.slot i fun hd => (hit_false h1 hd).1 hi, fun id hid => ?_, fun id hid => ?_, fun q hq => ?_⟩
  · rw [ha.ent, hup id (hsub id hid)]
    have : id ∉ E.fz := fun hz => meets_false h3 hid (hw.fz id hz)
    simp only [if_neg this]
  · rw [ha.ent, hup id hid]
    simp only
    split
    · exact simO_frz' _
    · exact simO_refl _
  · have hne : ∀ j, (s1.ent (.new q j) = none ↔ s.ent (.new q j) = none) := fun j => by
      rw [ha.ent]
      cases hu : E.up (.new q j) with
      | none =>
        simp only
        split <;> simp
      | some e =>
        rcases hw.up _ e hu with ⟨_, h⟩ | ⟨q', j', hd, he⟩
        · simp [h]
        · simp only [Id.new.injEq] at he
          obtain ⟨rfl, _⟩ := he
          exact absurd hq (hit_false h1 hd).2
    rw [Bool.eq_iff_iff, virgin_iff, virgin_iff, ha.len]
    exact and_congr Iff.rfl (forall_congr' hne)

theorem foot_sub (s : AS) (o : Oper) : ∀ id ∈ (foot Γ ops s o).ws, id ∈ (foot Γ ops s o).rs := fun _ hid => List.mem_append.2 (.inr hid)

theorem swap {o' : Oper} {s1 s2 : AS} (h1 : gop1 P Γ objs ops o s = some s1) (h2 : gop1 P Γ objs ops o' s1 = some s2) (hi : (foot Γ ops s o).indep (foot Γ ops s1 o') = true) :
    ∃ t1, gop1 P Γ objs ops o' s = some t1 ∧ gop1 P Γ objs ops o t1 = some s2 ∧ foot Γ ops s o' = foot Γ ops s1 o' ∧ foot Γ ops t1 o = foot Γ ops s o := by
  unfold Foot.indep at hi
  simp only [Bool.and_eq_true, Bool.not_eq_true'] at hi
  obtain ⟨⟨⟨⟨⟨i1, i2⟩, i3⟩, i4⟩, i5⟩, i6⟩ := hi
  obtain ⟨E, a1, w1, l1⟩ := gop1_local h1
  obtain ⟨E', a2, w2, l2⟩ := gop1_local h2
  obtain ⟨g1, g2, g3, g4⟩ := agree_of (f := foot Γ ops s o) (f' := foot Γ ops s1 o') a1 w1 (foot_sub _ _) i1 i3 i4 i5
  have hag : Agree (foot Γ ops s1 o') s1 s := ⟨fun i hi => (g1 i hi).symm, fun id hid => (g2 id hid).symm, fun id hid => by
    have := g3 id hid
    revert this
    cases s1.ent id <;> cases s.ent id <;> simp only [simO] <;> intro h <;> first | trivial | exact h | skip
    rename_i a b
    cases a <;> cases b <;> simp_all [Ent.sim], fun q hq => (g4 q hq).symm⟩
  obtain ⟨t1, k1, k2⟩ := l2 s hag
  have hf' := foot_congr hag
  have w2' : Within (foot Γ ops s1 o') s E' := ⟨fun id e hu => by
    rcases w2.up id e hu with ⟨h, hn⟩ | h
    · exact .inl ⟨h, by rw [← g2 id h]; exact hn⟩
    · exact .inr h, w2.fz⟩
  obtain ⟨m1, m2, m3, m4⟩ := agree_of (f := foot Γ ops s1 o') (f' := foot Γ ops s o) k2 w2' (foot_sub _ _) i2 i4 i3 i6
  have hag2 : Agree (foot Γ ops s o) s t1 := ⟨m1, m2, m3, m4⟩
  obtain ⟨t2, k3, k4⟩ := l1 t1 hag2
  refine ⟨t1, k1, ?_, hf', foot_congr hag2⟩
  rw [k3]
  congr 1
  -- the two orders give one state
  have hup1 : ∀ id e, E.up id = some e → E'.up id = none ∧ id ∉ E'.fz := fun id e hu => by
    rcases w1.up id e hu with ⟨h, hn⟩ | ⟨q, j, hd, rfl⟩
    · refine ⟨?_, fun hz => meets_false i3 h (w2.fz id hz)⟩
      cases hu' : E'.up id with
      | none => rfl
      | some e' =>
        rcases w2.up id e' hu' with ⟨h', _⟩ | ⟨q, j, hd, rfl⟩
        · exact absurd (foot_sub _ _ id h') (meets_false i3 h)
        · exact absurd (foot_sub _ _ _ h) (siteIn_false i6 hd j)
    · refine ⟨?_, fun hz => siteIn_false i5 hd j (w2.fz _ hz)⟩
      cases hu' : E'.up (.new q j) with
      | none => rfl
      | some e' =>
        rcases w2.up _ e' hu' with ⟨h', _⟩ | ⟨q', j', hd', he⟩
        · exact absurd (foot_sub _ _ _ h') (siteIn_false i5 hd j)
        · simp only [Id.new.injEq] at he
          obtain ⟨rfl, _⟩ := he
          exact absurd hd' (hit_false i1 hd).2
  have hup2 : ∀ id e, E'.up id = some e → E.up id = none ∧ id ∉ E.fz := fun id e hu => by
    have hn : E.up id = none := by
      cases hu1 : E.up id with
      | none => rfl
      | some e1 => rw [(hup1 id e1 hu1).1] at hu; cases hu
    refine ⟨hn, fun hz => ?_⟩
    rcases w2.up id e hu with ⟨h, _⟩ | ⟨q, j, hd, rfl⟩
    · exact meets_false i4 h (w1.fz id hz)
    · exact siteIn_false i6 hd j (w1.fz _ hz)
  refine AS.ext_of ?_ (by rw [k4.len, k2.len, a2.len, a1.len]) fun id => ?_
  · have e1 : ∀ (u u' : AS) (d : Option Tmp) (v : AVal), u.slots = u'.slots → (u.put d v).slots = (u'.put d v).slots := fun u u' d v h => by cases d <;> simp [AS.put, h]
    rw [k4.slots, a2.slots, e1 t1 (s.put o'.dst E'.v) _ _ k2.slots, e1 s1 (s.put o.dst E.v) _ _ a1.slots]
    cases hd : o.dst with
    | none => cases o'.dst <;> rfl
    | some q =>
      cases hd' : o'.dst with
      | none => rfl
      | some q' =>
        have hne : q' ≠ q := fun e => (hit_false (f := foot Γ ops s o) i1 hd).2 (by show o'.dst = some q; rw [hd', e])
        simp only [AS.put]
        exact List.set_comm _ _ hne
  · rw [k4.ent, k2.ent, a2.ent, a1.ent]
    cases hu : E.up id with
    | some e =>
      obtain ⟨h3, h4⟩ := hup1 id e hu
      simp only [h3, if_neg h4]
    | none =>
      simp only
      cases hu' : E'.up id with
      | some e =>
        obtain ⟨_, h4⟩ := hup2 id e hu'
        simp only [if_neg h4]
      | none =>
        simp only
        by_cases z1 : id ∈ E.fz <;> by_cases z2 : id ∈ E'.fz <;> simp only [if_pos, if_neg, z1, z2, not_false_eq_true]

end
end Go.Ab
