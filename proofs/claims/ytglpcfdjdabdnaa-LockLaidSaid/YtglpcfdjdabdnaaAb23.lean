/-
  The abstract machine, a part.
-/
import Derived.Test.YtglpcfdjdabdnaaAb20

/-
  Drawn regions, fourth part: two operations that have nothing to do with one another change places.
-/
namespace Go.Ab

section
variable {P : Program} {Γ : Gam} {objs : List Nat} {ops : Array Oper} {o : Oper} {s t : AS}

/-! ### With its guard -/

def Loc (P : Program) (Γ : Gam) (objs : List Nat) (ops : Array Oper) (o : Oper) (s s' : AS) : Prop :=
  ∃ E, App o.dst E s s' ∧ Within (foot Γ ops s o) s E ∧ ∀ t, Agree (foot Γ ops s o) s t → ∃ t', gop1 P Γ objs ops o t = some t' ∧ App o.dst E t t'

theorem gop1_local {s' : AS} (he : gop1 P Γ objs ops o s = some s') : Loc P Γ objs ops o s s' := by
  unfold gop1 at he
  split at he
  · rename_i hg
    obtain ⟨E, h1, h2, h3⟩ := aop_local (ops := ops) he
    refine ⟨E, h1, h2, fun t ht => ?_⟩
    obtain ⟨t', h4, h5⟩ := h3 t ht
    exact ⟨t', by unfold gop1; simp only [hg]; exact h4, h5⟩
  · rename_i j want hg
    split at he
    · rename_i q hq
      split at he
      · rename_i b hb
        have hsl : ∀ t, Agree (foot Γ ops s o) s t → t.slot q = .d .bool b := fun t ht => by
          rw [ht.slots q (List.mem_append.2 (.inr (by unfold guardSlot; simp only [hg, hq]; simp)))]; exact hb
        by_cases e : b = want
        · rw [if_pos e] at he
          obtain ⟨E, h1, h2, h3⟩ := aop_local (ops := ops) he
          refine ⟨E, h1, h2, fun t ht => ?_⟩
          obtain ⟨t', h4, h5⟩ := h3 t ht
          exact ⟨t', by unfold gop1; simp only [hg, hq, hsl t ht, if_pos e]; exact h4, h5⟩
        · rw [if_neg e] at he
          simp only [Option.some.injEq] at he
          subst he
          exact ⟨⟨.nil, fun _ => none, []⟩, App.justPut _ _ _, ⟨fun _ _ h => by simp at h, fun _ h => by simp at h⟩, fun t ht => ⟨_, by unfold gop1; simp only [hg, hq, hsl t ht, if_neg e], App.justPut _ _ _⟩⟩
      · rename_i hb
        have hsl : ∀ t, Agree (foot Γ ops s o) s t → t.slot q = .nil := fun t ht => by
          rw [ht.slots q (List.mem_append.2 (.inr (by unfold guardSlot; simp only [hg, hq]; simp)))]; exact hb
        simp only [Option.some.injEq] at he
        subst he
        exact ⟨⟨.nil, fun _ => none, []⟩, App.justPut _ _ _, ⟨fun _ _ h => by simp at h, fun _ h => by simp at h⟩, fun t ht => ⟨_, by unfold gop1; simp only [hg, hq, hsl t ht], App.justPut _ _ _⟩⟩
      · cases he
    · cases he

theorem writes_congr (h : Agree (foot Γ ops s o) s t) : writes Γ t o = writes Γ s o := by
  have hws : ∀ id ∈ writes Γ s o, t.ent id = s.ent id := h.ws
  unfold writes at hws ⊢
  split
  · rename_i x v hop
    rw [h.ev (by rw [hop]; simp [Op.operands])]
  · rename_i T U x hop
    rw [h.ev (by rw [hop]; simp [Op.operands])]
  · rename_i c hop
    obtain ⟨cal, args, tys⟩ := c
    simp only [hop] at hws
    simp only
    split
    · split
      · rename_i x l ha
        rw [h.ev (by rw [hop]; simp only [Op.operands, Call.operands, List.nil_append, Array.toList_append, ha]; simp)]
      · rfl
    · split
      · rename_i x l ha
        rw [h.ev (by rw [hop]; simp only [Op.operands, Call.operands, List.nil_append, Array.toList_append, ha]; simp)]
      · rfl
    · rename_i F
      simp only at hws
      have hm : ∀ z, z = F ∨ z ∈ args.toList → z ∈ o.op.operands.toList := fun z hz => by
        rw [hop]
        simp only [Op.operands, Call.operands, Array.toList_append, List.mem_append]
        rcases hz with rfl | hz
        · exact .inl (by simp)
        · exact .inr hz
      have h1 : t.ev F = s.ev F := h.ev (hm F (.inl rfl))
      have h2 : args.toList.map t.ev = args.toList.map s.ev := List.map_congr_left fun x hx => h.ev (hm x (.inr hx))
      rw [h1]
      split
      · rename_i f caps hF
        simp only [hF] at hws
        rw [h2]
        split
        · rename_i en hen
          simp only [hen] at hws
          exact reach_congr _ _ _ fun id hid => by rw [hws id hid]
        · rfl
      · rfl
    · rfl
  · rfl

theorem foot_congr (h : Agree (foot Γ ops s o) s t) : foot Γ ops t o = foot Γ ops s o := by
  have h1 := writes_congr h
  have h2 : opIds t o = opIds s o := by
    unfold opIds
    unfold List.flatMap
    congr 1
    exact List.map_congr_left fun i hi => by rw [h.slots i (List.mem_append.2 (.inl hi))]
  unfold foot
  rw [h1, h2]

/-! ### Two operations -/

theorem meets_false {xs ys : List Id} (h : meets xs ys = false) {id : Id} (hx : id ∈ xs) : id ∉ ys := by
  intro hy
  have : meets xs ys = true := by
    unfold meets
    exact List.any_eq_true.2 ⟨id, hx, List.any_eq_true.2 ⟨id, hy, by simp⟩⟩
  rw [h] at this; cases this

theorem siteIn_false {d : Option Tmp} {ids : List Id} (h : siteIn d ids = false) {q : Nat} (hd : d = some q) (j : Nat) : Id.new q j ∉ ids := by
  intro hy
  have : siteIn d ids = true := by
    subst hd
    exact List.any_eq_true.2 ⟨_, hy, by simp⟩
  rw [h] at this; cases this

theorem hit_false {f g : Foot} (h : f.hit g = false) {q : Nat} (hd : f.dst = some q) : q ∉ g.slots ∧ g.dst ≠ some q := by
  unfold Foot.hit at h
  rw [hd] at h
  simp only [Bool.or_eq_false_iff, List.any_eq_false, decide_eq_true_eq, decide_eq_false_iff_not] at h
  exact ⟨fun hx => h.1 q hx rfl, h.2⟩

theorem slot_put_ne (s : AS) (d : Option Tmp) (v : AVal) (i : Nat) (h : d ≠ some i) : (s.put d v).slot i = s.slot i := by
  cases d with
  | none => rfl
  | some q => rw [slot_put, if_neg]; rintro ⟨rfl, _⟩; exact h rfl

theorem App.slot {d : Option Tmp} {E : Eff} {s s' : AS} (h : App d E s s') (i : Nat) (hi : d ≠ some i) : s'.slot i = s.slot i := by
  rw [← slot_put_ne s d E.v i hi]
  simp only [AS.slot, h.slots]

/-- Is a state behind an effect the same as ahead of it, where another footprint looks? -/
theorem agree_of {f f' : Foot} {E : Eff} {s s1 : AS} (ha : App f.dst E s s1) (hw : Within f s E) (hsub : ∀ id ∈ f'.ws, id ∈ f'.rs) (h1 : f.hit f' = false) (h2 : meets f.ws f'.rs = false) (h3 : meets f'.ws f.rs = false)
    (h4 : siteIn f.dst f'.rs = false) : (∀ i ∈ f'.slots, s1.slot i = s.slot i) ∧ (∀ id ∈ f'.ws, s1.ent id = s.ent id) ∧ (∀ id ∈ f'.rs, simO (s1.ent id) (s.ent id)) ∧ ∀ q, f'.dst = some q → s1.virgin q = s.virgin q := by
  have hup : ∀ id ∈ f'.rs, E.up id = none := fun id hid => by
    cases hu : E.up id with
    | none => rfl
    | some e =>
      rcases hw.up id e hu with ⟨h, _⟩ | ⟨q, j, hd, rfl⟩
      · exact absurd hid (meets_false h2 h)
      · exact absurd hid (siteIn_false h4 hd j)
  refine ⟨fun i hi => ha.slot i fun hd => (hit_false h1 hd).1 hi, fun id hid => ?_, fun id hid => ?_, fun q hq => ?_⟩
  · rw [ha.ent, hup id (hsub id hid)]
    have : id ∉ E.fz := fun hz => meets_false h3 hid (hw.fz id hz)
    simp only [if_neg this]
  · rw [ha.ent, hup id hid]
    simp only
    split
    · exact simO_frz' _
    · exact simO_refl _
  · have hne : ∀ j, (s1.ent (.new q j) = none ↔ s.ent (.new q j) = none) := fun j => by
      rw [ha.ent]
      cases hu : E.up (.new q j) with
      | none =>
        simp only
        split <;> simp
      | some e =>
        rcases hw.up _ e hu with ⟨_, h⟩ | ⟨q', j', hd, he⟩
        · simp [h]
        · simp only [Id.new.injEq] at he
          obtain ⟨rfl, _⟩ := he
          exact absurd hq (hit_false h1 hd).2
    rw [Bool.eq_iff_iff, virgin_iff, virgin_iff, ha.len]
    exact and_congr Iff.rfl (forall_congr' hne)

theorem foot_sub (s : AS) (o : Oper) : ∀ id ∈ (foot Γ ops s o).ws, id ∈ (foot Γ ops s o).rs := fun _ hid => List.mem_append.2 (.inr hid)

theorem swap {o' : Oper} {s1 s2 : AS} (h1 : gop1 P Γ objs ops o s = some s1) (h2 : gop1 P Γ objs ops o' s1 = some s2) (hi : (foot Γ ops s o).indep (foot Γ ops s1 o') = true) :
    ∃ t1, gop1 P Γ objs ops o' s = some t1 ∧ gop1 P Γ objs ops o t1 = some s2 ∧ foot Γ ops s o' = foot Γ ops s1 o' ∧ foot Γ ops t1 o = foot Γ ops s o := by
  unfold Foot.indep at hi
  simp only [Bool.and_eq_true, Bool.not_eq_true'] at hi
  obtain ⟨⟨⟨⟨⟨i1, i2⟩, i3⟩, i4⟩, i5⟩, i6⟩ := hi
  obtain ⟨E, a1, w1, l1⟩ := gop1_local h1
  obtain ⟨E', a2, w2, l2⟩ := gop1_local h2
  obtain ⟨g1, g2, g3, g4⟩ := agree_of (f := foot Γ ops s o) (f' := foot Γ ops s1 o') a1 w1 (foot_sub _ _) i1 i3 i4 i5
  have hag : Agree (foot Γ ops s1 o') s1 s := ⟨fun i hi => (g1 i hi).symm, fun id hid => (g2 id hid).symm, fun id hid => by
    have := g3 id hid
    revert this
    cases s1.ent id <;> cases s.ent id <;> simp only [simO] <;> intro h <;> first | trivial | exact h | skip
    rename_i a b
    cases a <;> cases b <;> simp_all [Ent.sim], fun q hq => (g4 q hq).symm⟩
  obtain ⟨t1, k1, k2⟩ := l2 s hag
  have hf' := foot_congr hag
  have w2' : Within (foot Γ ops s1 o') s E' := ⟨fun id e hu => by
    rcases w2.up id e hu with ⟨h, hn⟩ | h
    · exact .inl ⟨h, by rw [← g2 id h]; exact hn⟩
    · exact .inr h, w2.fz⟩
  obtain ⟨m1, m2, m3, m4⟩ := agree_of (f := foot Γ ops s1 o') (f' := foot Γ ops s o) k2 w2' (foot_sub _ _) i2 i4 i3 i6
  have hag2 : Agree (foot Γ ops s o) s t1 := ⟨m1, m2, m3, m4⟩
  obtain ⟨t2, k3, k4⟩ := l1 t1 hag2
  refine ⟨t1, k1, ?_, hf', foot_congr hag2⟩
  rw [k3]
  congr 1
  -- the two orders give one state
  have hup1 : ∀ id e, E.up id = some e → E'.up id = none ∧ id ∉ E'.fz := fun id e hu => by
    rcases w1.up id e hu with ⟨h, hn⟩ | ⟨q, j, hd, rfl⟩
    · refine ⟨?_, fun hz => meets_false i3 h (w2.fz id hz)⟩
      cases hu' : E'.up id with
      | none => rfl
      | some e' =>
        rcases w2.up id e' hu' with ⟨h', _⟩ | ⟨q, j, hd, rfl⟩
        · exact absurd (foot_sub _ _ id h') (meets_false i3 h)
        · exact absurd (foot_sub _ _ _ h) (siteIn_false i6 hd j)
    · refine ⟨?_, fun hz => siteIn_false i5 hd j (w2.fz _ hz)⟩
      cases hu' : E'.up (.new q j) with
      | none => rfl
      | some e' =>
        rcases w2.up _ e' hu' with ⟨h', _⟩ | ⟨q', j', hd', he⟩
        · exact absurd (foot_sub _ _ _ h') (siteIn_false i5 hd j)
        · simp only [Id.new.injEq] at he
          obtain ⟨rfl, _⟩ := he
          exact absurd hd' (hit_false i1 hd).2
  have hup2 : ∀ id e, E'.up id = some e → E.up id = none ∧ id ∉ E.fz := fun id e hu => by
    have hn : E.up id = none := by
      cases hu1 : E.up id with
      | none => rfl
      | some e1 => rw [(hup1 id e1 hu1).1] at hu; cases hu
    refine ⟨hn, fun hz => ?_⟩
    rcases w2.up id e hu with ⟨h, _⟩ | ⟨q, j, hd, rfl⟩
    · exact meets_false i4 h (w1.fz id hz)
    · exact siteIn_false i6 hd j (w1.fz _ hz)
  refine AS.ext_of ?_ (by rw [k4.len, k2.len, a2.len, a1.len]) fun id => ?_
  · have e1 : ∀ (u u' : AS) (d : Option Tmp) (v : AVal), u.slots = u'.slots → (u.put d v).slots = (u'.put d v).slots := fun u u' d v h => by cases d <;> simp [AS.put, h]
    rw [k4.slots, a2.slots, e1 t1 (s.put o'.dst E'.v) _ _ k2.slots, e1 s1 (s.put o.dst E.v) _ _ a1.slots]
    cases hd : o.dst with
    | none => cases o'.dst <;> rfl
    | some q =>
      cases hd' : o'.dst with
      | none => rfl
      | some q' =>
        have hne : q' ≠ q := fun e => (hit_false (f := foot Γ ops s o) i1 hd).2 (by show o'.dst = some q; rw [hd', e])
        simp only [AS.put]
        exact List.set_comm _ _ hne
  · rw [k4.ent, k2.ent, a2.ent, a1.ent]
    cases hu : E.up id with
    | some e =>
      obtain ⟨h3, h4⟩ := hup1 id e hu
      simp only [h3, if_neg h4]
    | none =>
      simp only
      cases hu' : E'.up id with
      | some e =>
        obtain ⟨_, h4⟩ := hup2 id e hu'
        simp only [if_neg h4]
      | none =>
        simp only
        by_cases z1 : id ∈ E.fz <;> by_cases z2 : id ∈ E'.fz <;> simp only [if_pos, if_neg, z1, z2, not_false_eq_true]

end
end Go.Ab

/-
  Drawn regions, fifth part: every order gives the same state.
-/
namespace Go.Ab

section
variable {P : Program} {Γ : Gam} {objs : List Nat} {ops : Array Oper}

def RunL (P : Program) (Γ : Gam) (objs : List Nat) (ops : Array Oper) (fs : Nat → Foot) : List Nat → AS → AS → Prop
  | [], s, sn => s = sn
  | i :: l, s, sn => ∃ o, ops[i]? = some o ∧ foot Γ ops s o = fs i ∧ ∃ s', gop1 P Γ objs ops o s = some s' ∧ RunL P Γ objs ops fs l s' sn

theorem RunL.bubble {fs : Nat → Foot} {i : Nat} {l2 : List Nat} {sn : AS} : ∀ (l1 : List Nat) {s : AS}, RunL P Γ objs ops fs (l1 ++ i :: l2) s sn → (∀ j ∈ l1, (fs j).indep (fs i) = true) → RunL P Γ objs ops fs (i :: (l1 ++ l2)) s sn
  | [], _, h, _ => h
  | j :: l1, s, h, hi => by
    obtain ⟨oj, h1, h2, s1, h3, h4⟩ := h
    obtain ⟨oi, h5, h6, s2, h7, h8⟩ := RunL.bubble l1 h4 fun j hj => hi j (List.mem_cons_of_mem _ hj)
    have hd := hi j (List.mem_cons_self ..)
    rw [← h2, ← h6] at hd
    obtain ⟨t1, k1, k2, k3, k4⟩ := swap h3 h7 hd
    exact ⟨oi, h5, by rw [k3, h6], t1, k1, oj, h1, by rw [k4, h2], s2, k2, h8⟩

theorem gopsD_run {R : Type} {anc : List Nat} {k : AS → Option R} {r : R} : ∀ (l : List Oper) (i : Nat) (acc : List (Nat × Foot)) (s : AS) (f0 : Nat → Foot), (∀ n o, l[n]? = some o → ops[i + n]? = some o) → (∀ x ∈ acc, f0 x.1 = x.2 ∧ x.1 < i) →
    gopsD P Γ objs ops anc i l acc s k = some r → ∃ fs sn, (∀ j, j < i → fs j = f0 j) ∧ RunL P Γ objs ops fs (List.range' i l.length) s sn ∧ k sn = some r ∧
      (∀ x ∈ acc, ∀ m, i ≤ m → m < i + l.length → (anc.getD m 0).testBit x.1 = true ∨ x.2.indep (fs m) = true) ∧ (∀ m1 m2, i ≤ m1 → m1 < m2 → m2 < i + l.length → (anc.getD m2 0).testBit m1 = true ∨ (fs m1).indep (fs m2) = true)
  | [], i, acc, s, f0, _, _, h => ⟨f0, s, fun _ _ => rfl, rfl, h, fun _ _ m h1 h2 => by simp at h2; omega, fun _ _ h1 h2 h3 => by simp at h3; omega⟩
  | o :: l, i, acc, s, f0, ho, hf, h => by
    unfold gopsD at h
    split at h
    · rename_i hall
      simp only [AS.seen_eq] at h
      obtain ⟨s', h1, h2⟩ := gop_some (k := fun s' => gopsD P Γ objs ops anc (i + 1) l ((i, foot Γ ops s o) :: acc) s' k) h
      have hacc : ∀ x ∈ (i, foot Γ ops s o) :: acc, (if x.1 = i then foot Γ ops s o else f0 x.1) = x.2 ∧ x.1 < i + 1 := fun x hx => by
        rcases List.mem_cons.1 hx with rfl | hx
        · simp
        · obtain ⟨q1, q2⟩ := hf x hx
          rw [if_neg (by omega)]
          exact ⟨q1, by omega⟩
      obtain ⟨fs, sn, g1, g2, g3, g4, g5⟩ := gopsD_run l (i + 1) ((i, foot Γ ops s o) :: acc) s' (fun n => if n = i then foot Γ ops s o else f0 n)
        (fun n o' hn => by have := ho (n + 1) o' (by simpa using hn); rw [← this]; congr 1; omega) hacc h2
      have gi : fs i = foot Γ ops s o := by rw [g1 i (by omega), if_pos rfl]
      refine ⟨fs, sn, fun j hj => by rw [g1 j (by omega), if_neg (by omega)], ?_, g3, fun x hx m h3 h4 => ?_, fun m1 m2 h3 h4 h5 => ?_⟩
      · rw [List.length_cons, List.range'_succ]
        exact ⟨o, ho 0 o rfl, gi.symm, s', h1, g2⟩
      · rcases Nat.eq_or_lt_of_le h3 with rfl | h3
        · have := List.all_eq_true.1 hall x hx
          simp only [Bool.or_eq_true] at this
          rcases this with h | h
          · exact .inl h
          · right; rw [gi]; exact h
        · exact g4 x (List.mem_cons_of_mem _ hx) m (by omega) (by simp only [List.length_cons] at h4; omega)
      · rcases Nat.eq_or_lt_of_le h3 with rfl | h3
        · rw [gi]
          exact g4 (i, foot Γ ops s o) (List.mem_cons_self ..) m2 (by omega) (by simp only [List.length_cons] at h5; omega)
        · exact g5 m1 m2 (by omega) h4 (by simp only [List.length_cons] at h5; omega)
    · cases h

/-! ### What stands before an operation -/

theorem ancF_mem {acc : List Nat} {j : Nat} : ∀ {l : List Edge}, (l.foldr (fun e m => Nat.lor (Nat.lor (Nat.pow 2 e.on) (acc.getD e.on 0)) m) 0).testBit j = true → ∃ e ∈ l, j = e.on ∨ (acc.getD e.on 0).testBit j = true
  | [], h => by simp at h
  | e :: l, h => by
    rw [List.foldr_cons, show ∀ x y, Nat.lor x y = x ||| y from fun _ _ => rfl, show ∀ x y, Nat.lor x y = x ||| y from fun _ _ => rfl, Nat.testBit_or, Nat.testBit_or, show Nat.pow 2 e.on = 2 ^ e.on from rfl, Nat.testBit_two_pow] at h
    simp only [Bool.or_eq_true, decide_eq_true_eq] at h
    rcases h with (h | h) | h
    · exact ⟨e, List.mem_cons_self .., .inl h.symm⟩
    · exact ⟨e, List.mem_cons_self .., .inr h⟩
    · obtain ⟨e', h1, h2⟩ := ancF_mem h
      exact ⟨e', List.mem_cons_of_mem _ h1, h2⟩

theorem ancs_fold : ∀ (l : List Oper) (acc : List Nat), (∀ i, i < acc.length → (l.foldl (fun acc o => acc ++ [ancF acc o]) acc)[i]? = acc[i]?) ∧
    ∀ i o, l[i]? = some o → (l.foldl (fun acc o => acc ++ [ancF acc o]) acc)[acc.length + i]? = some (ancF ((l.foldl (fun acc o => acc ++ [ancF acc o]) acc).take (acc.length + i)) o)
  | [], acc => ⟨fun _ _ => rfl, fun i o h => by simp at h⟩
  | x :: l, acc => by
    obtain ⟨h1, h2⟩ := ancs_fold l (acc ++ [ancF acc x])
    simp only [List.foldl_cons]
    refine ⟨fun i hi => ?_, fun i o hi => ?_⟩
    · rw [h1 i (by simp; omega), List.getElem?_append_left hi]
    · cases i with
      | zero =>
        simp only [List.getElem?_cons_zero, Option.some.injEq] at hi
        subst hi
        rw [Nat.add_zero, h1 _ (by simp)]
        have : (l.foldl (fun acc o => acc ++ [ancF acc o]) (acc ++ [ancF acc x])).take acc.length = acc := by
          apply List.ext_getElem?
          intro j
          rw [List.getElem?_take]
          split
          · rename_i hj
            rw [h1 j (by simp; omega), List.getElem?_append_left hj]
          · rename_i hj
            rw [List.getElem?_eq_none (by omega)]
        rw [this]
        simp
      | succ i =>
        have := h2 i o (by simpa using hi)
        simp only [List.length_append, List.length_cons, List.length_nil, Nat.zero_add] at this
        rw [show acc.length + (i + 1) = acc.length + 1 + i by omega]
        exact this

theorem ancs_mem {l : List Oper} {i : Nat} {o : Oper} (hi : l[i]? = some o) {j : Nat} (hj : ((ancs l).getD i 0).testBit j = true) : ∃ e ∈ o.after.toList, Region.binds .any e = true ∧ (j = e.on ∨ ((ancs l).getD e.on 0).testBit j = true) := by
  have h := (ancs_fold l []).2 i o hi
  have e : ancs l = l.foldl (fun acc o => acc ++ [ancF acc o]) [] := rfl
  rw [← e] at h
  simp only [List.length_nil, Nat.zero_add] at h
  rw [List.getD_eq_getElem?_getD, h] at hj
  obtain ⟨e, h1, h3⟩ := ancF_mem hj
  obtain ⟨h1, h2⟩ := List.mem_filter.1 h1
  refine ⟨e, h1, h2, h3.imp id fun h4 => ?_⟩
  rw [List.getD_eq_getElem?_getD, List.getElem?_take] at h4
  split at h4
  · rw [List.getD_eq_getElem?_getD]; exact h4
  · simp at h4

/-! ### Orders -/

def unl (n : Nat) (listed : Array Bool) : List Nat := (List.range n).filter fun i => !listed.getD i true

theorem mem_unl {n : Nat} {listed : Array Bool} {i : Nat} : i ∈ unl n listed ↔ i < n ∧ listed.getD i true = false := by simp [unl]

theorem unl_sorted (n : Nat) (listed : Array Bool) : (unl n listed).Pairwise (· < ·) := (List.pairwise_lt_range).filter _

theorem getD_set {listed : Array Bool} {i j : Nat} (d : Bool) (hi : i < listed.size) : (listed.setIfInBounds i true).getD j d = if j = i then true else listed.getD j d := by
  simp only [Array.getD_eq_getD_getElem?, Array.getElem?_setIfInBounds]
  by_cases h : i = j
  · subst h; simp [hi]
  · simp [h, Ne.symm h]

theorem unl_set {listed : Array Bool} {i : Nat} (hi : i < listed.size) {l1 l2 : List Nat} (h : unl listed.size listed = l1 ++ i :: l2) : unl listed.size (listed.setIfInBounds i true) = l1 ++ l2 := by
  have hs := unl_sorted listed.size listed
  rw [h] at hs
  obtain ⟨p1, p2, p3⟩ := List.pairwise_append.1 hs
  obtain ⟨p4, _⟩ := List.pairwise_cons.1 p2
  have e : unl listed.size (listed.setIfInBounds i true) = (unl listed.size listed).filter fun j => decide (j ≠ i) := by
    unfold unl
    rw [List.filter_filter]
    refine List.filter_congr fun j _ => ?_
    rw [getD_set true hi]
    by_cases hj : j = i
    · simp [hj]
    · simp [hj]
  rw [e, h, List.filter_append, List.filter_cons]
  have f1 : l1.filter (fun j => decide (j ≠ i)) = l1 := List.filter_eq_self.2 fun j hj => by
    have := p3 j hj i (List.mem_cons_self ..)
    simp; omega
  have f2 : l2.filter (fun j => decide (j ≠ i)) = l2 := List.filter_eq_self.2 fun j hj => by
    have := p4 j hj
    simp; omega
  rw [f1, f2]
  simp

theorem any_order {C : Ctx} (hΓ : Sound P Γ) {fs : Nat → Foot} {sn : AS} {Q : Exit → Act → World → Prop} (hE : edgesOk ops.toList = true)
    (hind : ∀ m1 m2, m1 < m2 → m2 < ops.size → ((ancs ops.toList).getD m2 0).testBit m1 = true ∨ (fs m1).indep (fs m2) = true) (hQ : ∀ a w, Sts C sn a w → Q .normal a w) :
    ∀ (fuel : Nat) (listed : Array Bool) (s : AS) (a : Act) (w : World), listed.size = ops.size → (unl ops.size listed).length = fuel →
      (∀ i, i < ops.size → listed.getD i true = true → ∀ j, ((ancs ops.toList).getD i 0).testBit j = true → listed.getD j false = true) → RunL P Γ objs ops fs (unl ops.size listed) s sn → Sts C s a w → wpAny P .any ops Q fuel listed a w := by
  have hedge : ∀ i o, ops[i]? = some o → ∀ e ∈ o.after.toList, Region.binds .any e = true → e.on < i := fun i o hi e he hb => by
    have := List.all_eq_true.1 hE (o, i) (List.mem_zipIdx_iff_getElem?.2 (by simpa using hi))
    have := List.all_eq_true.1 this e he
    simpa [hb] using this
  have hrdy : ∀ (listed : Array Bool), listed.size = ops.size → ∀ i, i ∈ Region.ready .any ops listed ↔ i ∈ unl ops.size listed ∧ ∀ o, ops[i]? = some o → ∀ e ∈ o.after.toList, Region.binds .any e = true → listed.getD e.on false = true := fun listed _ i => by
    rw [mem_unl]
    unfold Region.ready
    simp only [List.mem_filter, List.mem_range, Bool.and_eq_true, Bool.not_eq_true']
    constructor
    · rintro ⟨h1, h2, h3⟩
      refine ⟨⟨h1, h2⟩, fun o ho e he hb => ?_⟩
      rw [ho] at h3
      simp only [Option.map_some, Option.getD_some, Array.all_eq_true', Bool.or_eq_true, Bool.not_eq_true'] at h3
      rcases h3 e (by simpa using he) with h | h
      · rw [hb] at h; cases h
      · exact h
    · rintro ⟨⟨h1, h2⟩, h3⟩
      refine ⟨h1, h2, ?_⟩
      obtain ⟨o, ho⟩ : ∃ o, ops[i]? = some o := ⟨ops[i], by simp [h1]⟩
      rw [ho]
      simp only [Option.map_some, Option.getD_some, Array.all_eq_true', Bool.or_eq_true, Bool.not_eq_true']
      intro e he
      cases hb : Region.binds .any e with
      | false => exact .inl rfl
      | true => exact .inr (h3 o ho e (by simpa using he) hb)
  have hsome : ∀ (listed : Array Bool), listed.size = ops.size → Region.ready .any ops listed = [] → unl ops.size listed = [] := fun listed hs hr => by
    cases hu : unl ops.size listed with
    | nil => rfl
    | cons i l =>
      exfalso
      have hi : i ∈ unl ops.size listed := by rw [hu]; exact List.mem_cons_self ..
      have hso := unl_sorted ops.size listed
      rw [hu] at hso
      have : i ∈ Region.ready .any ops listed := (hrdy listed hs i).2 ⟨hi, fun o ho e he hb => by
        have hlt := hedge i o ho e he hb
        have hin := (mem_unl.1 hi).1
        cases hl : listed.getD e.on true with
        | false =>
          have hm : e.on ∈ unl ops.size listed := mem_unl.2 ⟨by omega, hl⟩
          rw [hu] at hm
          rcases List.mem_cons.1 hm with h | h
          · omega
          · have := (List.pairwise_cons.1 hso).1 _ h; omega
        | true =>
          have : e.on < listed.size := by omega
          simp only [Array.getD_eq_getD_getElem?, Array.getElem?_eq_getElem this, Option.getD_some] at hl ⊢
          exact hl⟩
      rw [hr] at this
      cases this
  intro fuel
  induction fuel with
  | zero =>
    intro listed s a w hs hl _ hr hst
    have hn : unl ops.size listed = [] := List.eq_nil_of_length_eq_zero hl
    refine ⟨?_, ?_⟩
    · cases hre : Region.ready .any ops listed with
      | nil => rfl
      | cons i l =>
        have : i ∈ Region.ready .any ops listed := by rw [hre]; exact List.mem_cons_self ..
        have := ((hrdy listed hs i).1 this).1
        rw [hn] at this; cases this
    · rw [hn] at hr
      have : s = sn := hr
      subst this
      exact hQ a w hst
  | succ fuel ih =>
    intro listed s a w hs hl hcl hr hst
    refine ⟨fun hre => ?_, fun i hi => ?_⟩
    · have := hsome listed hs hre
      rw [this] at hl; simp at hl
    · obtain ⟨hu, hdep⟩ := (hrdy listed hs i).1 hi
      obtain ⟨hin, hli⟩ := mem_unl.1 hu
      obtain ⟨o, ho⟩ : ∃ o, ops[i]? = some o := ⟨ops[i], by simp [hin]⟩
      obtain ⟨l1, l2, hsp⟩ := List.append_of_mem hu
      have hso := unl_sorted ops.size listed
      rw [hsp] at hso
      have hanc : ∀ j, ((ancs ops.toList).getD i 0).testBit j = true → listed.getD j false = true := fun j hj => by
        obtain ⟨e, he, hb, h | h⟩ := ancs_mem (by simpa using ho) hj
        · rw [h]; exact hdep o ho e he hb
        · have h1 := hdep o ho e he hb
          have h2 := hedge i o ho e he hb
          refine hcl e.on (by omega) ?_ j h
          have : e.on < listed.size := by omega
          simp only [Array.getD_eq_getD_getElem?, Array.getElem?_eq_getElem this, Option.getD_some] at h1 ⊢
          exact h1
      rw [hsp] at hr
      have hb := RunL.bubble l1 hr fun j hj => by
        have hlt : j < i := (List.pairwise_append.1 hso).2.2 j hj i (List.mem_cons_self ..)
        rcases hind j i hlt hin with h | h
        · have h1 := hanc j h
          have hju : j ∈ unl ops.size listed := by rw [hsp]; exact List.mem_append.2 (.inl hj)
          have h2 := (mem_unl.1 hju).2
          have : j < listed.size := by omega
          simp only [Array.getD_eq_getD_getElem?, Array.getElem?_eq_getElem this, Option.getD_some] at h1 h2
          rw [h1] at h2; cases h2
        · exact h
      obtain ⟨o', ho', hf, s', hg, hrun⟩ := hb
      obtain rfl : o = o' := by rw [ho] at ho'; simpa using ho'
      have hset : unl ops.size (listed.setIfInBounds i true) = l1 ++ l2 := by
        rw [← hs] at hsp ⊢
        exact unl_set (by omega) hsp
      refine ((gop1_runs hΓ hst hg).mono fun a' w' hst' => ih (listed.setIfInBounds i true) s' a' w' (by simpa using hs) ?_ ?_ (by rw [hset]; exact hrun) hst').wpOp ho
      · rw [hset]
        rw [hsp] at hl
        simp only [List.length_append, List.length_cons] at hl ⊢
        omega
      · intro m hm hlm j hj
        rw [getD_set false (by omega)]
        split
        · rfl
        · rw [getD_set true (by omega)] at hlm
          split at hlm
          · rename_i hmi
            subst hmi
            exact hanc j hj
          · exact hcl m hm hlm j hj

theorem region_draw {C : Ctx} (hm : P.follows .mixedOrders = true) (hΓ : Sound P Γ) {id : Nat} {R : Type} {Q : Exit → Act → World → Prop} {s : AS} {a : Act} {w : World} {k : AS → Option R} {r : R} (h : Sts C s a w) (hE : edgesOk ops.toList = true)
    (he : gopsD P Γ objs ops (ancs ops.toList) 0 ops.toList [] s k = some r) (hk : ∀ s' a' w', Sts C s' a' w' → k s' = some r → Q .normal a' w') : (Code.region id ops true).wp P Q a w := by
  obtain ⟨fs, sn, _, g2, g3, _, g5⟩ := gopsD_run ops.toList 0 [] s (fun _ => ⟨none, [], [], []⟩) (fun n o hn => by simpa using hn) (fun _ hx => by cases hx) he
  refine wp_region_any hm ?_
  obtain ⟨g, β, h⟩ := h
  have hu : unl ops.size (Array.replicate ops.size false) = List.range' 0 ops.toList.length := by
    unfold unl
    rw [List.filter_eq_self.2]
    · simp [List.range_eq_range']
    · intro i hi
      have hi : i < ops.size := by simpa using hi
      simp [Array.getD_eq_getD_getElem?, hi]
  refine any_order (objs := objs) hΓ hE (fs := fs) (sn := sn) (fun m1 m2 h1 h2 => g5 m1 m2 (Nat.zero_le _) h1 (by simpa using h2)) (fun a' w' hs => hk sn a' w' hs g3) ops.size _ s a _ (by simp) (by rw [hu]; simp) (fun i hi hl => ?_) (by rw [hu]; exact g2) ⟨g, β, h.drew⟩
  simp [Array.getD_eq_getD_getElem?, hi] at hl

end
end Go.Ab

/-
  Loops' heads: what is kept of a state; results; what a function leaves.
-/
namespace Go.Ab

theorem ren_same {ρ : Ren} : ∀ (v : AVal), (∀ id ∈ v.ids, ∀ ver, ρ id ver = some (id, ver)) → v.ren ρ = v
  | .ptr id ver p n, h => by simp only [AVal.ren]; rw [h id (by simp [AVal.ids])]
  | .sref id ver p c i len, h => by simp only [AVal.ren]; rw [h id (by simp [AVal.ids])]
  | .pr a b, h => by simp only [AVal.ren]; rw [ren_same a fun id hid => h id (by simp [AVal.ids, hid]), ren_same b fun id hid => h id (by simp [AVal.ids, hid])]
  | .cons a b, h => by simp only [AVal.ren]; rw [ren_same a fun id hid => h id (by simp [AVal.ids, hid]), ren_same b fun id hid => h id (by simp [AVal.ids, hid])]
  | .fn f c, h => by simp only [AVal.ren]; rw [ren_same c fun id hid => h id (by simpa [AVal.ids] using hid)]
  | .bx e c, h => by simp only [AVal.ren]; rw [ren_same c fun id hid => h id (by simpa [AVal.ids] using hid)]
  | .undef, _ | .gone, _ | .nils, _ | .nilp, _ | .nilf, _ | .nilm, _ | .d _ _, _ | .rptr _ _, _ | .nil, _ | .vec .., _ | .sb _, _ => rfl

theorem there_ids {s : AS} : ∀ (v : AVal), v.there s = true → ∀ id ∈ v.ids, (s.obj id).isSome = true
  | .ptr id ver p n, h, i, hi => by simp only [AVal.ids, List.mem_singleton] at hi; subst hi; exact h
  | .sref id ver p c j len, h, i, hi => by simp only [AVal.ids, List.mem_singleton] at hi; subst hi; exact h
  | .pr a b, h, i, hi => by
    simp only [AVal.there, Bool.and_eq_true] at h
    simp only [AVal.ids, List.mem_append] at hi
    rcases hi with hi | hi
    · exact there_ids a h.1 i hi
    · exact there_ids b h.2 i hi
  | .cons a b, h, i, hi => by
    simp only [AVal.there, Bool.and_eq_true] at h
    simp only [AVal.ids, List.mem_append] at hi
    rcases hi with hi | hi
    · exact there_ids a h.1 i hi
    · exact there_ids b h.2 i hi
  | .fn f c, h, i, hi => there_ids c h i hi
  | .bx e c, h, i, hi => there_ids c h i hi
  | .undef, _, _, hi | .gone, _, _, hi | .nils, _, _, hi | .nilp, _, _, hi | .nilf, _, _, hi | .nilm, _, _, hi | .d _ _, _, _, hi | .rptr _ _, _, _, hi | .nil, _, _, hi | .vec .., _, _, hi | .sb _, _, _, hi => by cases hi

theorem noRef_ids {x : Id} : ∀ (v : AVal), v.noRef x = true → x ∉ v.ids
  | .ptr id ver p n, h, hi => by simp only [AVal.ids, List.mem_singleton] at hi; simp [AVal.noRef, hi] at h
  | .sref id ver p c j len, h, hi => by simp only [AVal.ids, List.mem_singleton] at hi; simp [AVal.noRef, hi] at h
  | .pr a b, h, hi => by
    simp only [AVal.noRef, Bool.and_eq_true] at h
    simp only [AVal.ids, List.mem_append] at hi
    rcases hi with hi | hi
    · exact noRef_ids a h.1 hi
    · exact noRef_ids b h.2 hi
  | .cons a b, h, hi => by
    simp only [AVal.noRef, Bool.and_eq_true] at h
    simp only [AVal.ids, List.mem_append] at hi
    rcases hi with hi | hi
    · exact noRef_ids a h.1 hi
    · exact noRef_ids b h.2 hi
  | .fn f c, h, hi => noRef_ids c h hi
  | .bx e c, h, hi => noRef_ids c h hi
  | .undef, _, hi | .gone, _, hi | .nils, _, hi | .nilp, _, hi | .nilf, _, hi | .nilm, _, hi | .d _ _, _, hi | .rptr _ _, _, hi | .nil, _, hi | .vec .., _, hi | .sb _, _, hi => by cases hi

section
variable {P : Program} {C : Ctx} {g : Nat → Lab} {β : Id → Option Pl} {s : AS} {a : Act} {w : World}

/-- A state that knows less, of objects that may bear other names. -/
theorem Inv.renamedTo (h : Inv C g β s a w) (hC : ∀ i j, C.E.s (.new i j) = none) {s1 : AS} {g1 : Nat → Lab} {β1 : Id → Option Pl} (ρ : Ren) (hlen : s1.slots.length = s.slots.length) (ht : Trans w w g g1) (hle : RenLe ρ (s.env w g β) (s1.env w g1 β1))
    (hslot : ∀ i, VS (s1.env w g1 β1) (s1.slot i) (a.tmps.getD i undef))
    (hent : ∀ id ver fr c, s1.ent id = some (.obj ver fr c) → ∃ id0 v0 c0, s.ent id0 = some (.obj v0 fr c0) ∧ c0.ren ρ = c ∧ β1 id = β id0 ∧ ∀ pl, β id0 = some pl → (∀ k, g pl.b = .own (.id id0) k → g1 pl.b = .own (.id id) k) ∧ (g pl.b = .free → g1 pl.b = .free))
    (hold : ∀ k, (s.ent (.old k) ≠ none → s1.ent (.old k) ≠ none) ∧ (∀ v fr c, s1.ent (.old k) = some (.obj v fr c) → ∃ c0, s.ent (.old k) = some (.obj v fr c0)) ∧ β1 (.old k) = β (.old k)) : Inv C g1 β1 s1 a w := by
  refine ⟨h.defers, by rw [hlen]; exact h.size, hslot, fun id ver fr c hid => ?_, h.trans.trans ht, ?_⟩
  · obtain ⟨id0, v0, c0, h1, h2, h3, h4⟩ := hent id ver fr c hid
    have := ObjR_ren hle (h.objs id0 v0 fr c0 h1) (id' := id) h3 fun pl hp => ⟨rfl, (h4 pl hp).1, (h4 pl hp).2⟩
    rw [h2] at this
    exact this
  · have hl := h.le
    have ho : ∀ id ver, C.E.bnd id ver → ∃ k, id = .old k := fun id ver hb => by
      cases id with
      | old k => exact ⟨k, rfl⟩
      | new i j => exact absurd (hC i j) hb.1
    refine ⟨hl.mem.trans (Trans.mem (E := s.env w g β) (E' := s1.env w g1 β1) ht), fun id ver hb => ?_, fun id ver hb hc => ?_⟩
    · obtain ⟨k, rfl⟩ := ho id ver hb
      obtain ⟨h1, h2⟩ := hl.bnd _ ver hb
      obtain ⟨e1, e2, _⟩ := hold k
      exact ⟨e1 h1, fun v fr c hh => let ⟨c0, hc0⟩ := e2 v fr c hh; h2 v fr c0 hc0⟩
    · obtain ⟨k, rfl⟩ := ho id ver hb
      obtain ⟨fr, c, hc⟩ := hc
      obtain ⟨_, e2, e3⟩ := hold k
      obtain ⟨c0, hc0⟩ := e2 _ _ _ hc
      obtain ⟨h1, h2⟩ := hl.cur _ ver hb ⟨fr, c0, hc0⟩
      exact ⟨h1, e3.trans h2⟩

/-- A state that knows less. -/
theorem Inv.renamed (h : Inv C g β s a w) (hC : ∀ i j, C.E.s (.new i j) = none) {s1 : AS} {β1 : Id → Option Pl} (ρ : Ren) (hlen : s1.slots.length = s.slots.length) (hle : RenLe ρ (s.env w g β) (s1.env w g β1))
    (hslot : ∀ i, VS (s1.env w g β1) (s1.slot i) (a.tmps.getD i undef)) (hent : ∀ id ver fr c, s1.ent id = some (.obj ver fr c) → ∃ v0, s.ent id = some (.obj v0 fr c) ∧ c.ren ρ = c ∧ β1 id = β id)
    (hold : ∀ k, s1.ent (.old k) = s.ent (.old k) ∧ β1 (.old k) = β (.old k)) : Inv C g β1 s1 a w :=
  h.renamedTo hC ρ hlen (Trans.refl w g) hle hslot (fun id ver fr c hid => let ⟨v0, h1, h2, h3⟩ := hent id ver fr c hid; ⟨id, v0, c, h1, h2, h3, fun _ _ => ⟨fun _ h => h, fun h => h⟩⟩)
    fun k => ⟨fun hh => by rw [(hold k).1]; exact hh, fun v fr c hh => ⟨c, (hold k).1.symm.trans hh⟩, (hold k).2⟩

/-- Another word for what a slot holds. -/
theorem Inv.see (h : Inv C g β s a w) (j : Nat) {v : AVal} (hv : VS (s.env w g β) v (a.tmps.getD j undef)) : Inv C g β (s.put (some j) v) a w := by
  refine ⟨h.defers, by simpa [AS.put] using h.size, fun i => ?_, by simpa using h.objs, h.trans, by simpa using h.le⟩
  rw [env_put, slot_put]
  split
  · rename_i hij; rw [hij.1]; exact hv
  · exact h.slots i

theorem slot_keep (keep : List Nat) : ∀ (l : List AVal) (n i : Nat), (keepSlots keep n l).getD i .undef = .undef ∨ (keepSlots keep n l).getD i .undef = l.getD i .undef
  | [], n, i => by simp [keepSlots]
  | v :: l, n, 0 => by
    simp only [keepSlots, List.getD_cons_zero]
    split
    · exact .inr rfl
    · exact .inl rfl
  | v :: l, n, i + 1 => by
    simp only [keepSlots, List.getD_cons_succ]
    exact slot_keep keep l (n + 1) i

theorem len_keepSlots (keep : List Nat) : ∀ (l : List AVal) (n : Nat), (keepSlots keep n l).length = l.length
  | [], n => rfl
  | v :: l, n => by simp [keepSlots, len_keepSlots keep l]

theorem site_keep (keep : List Nat) : ∀ (l : List (List Ent)) (n i : Nat), (keepSites keep n l).getD i [] = [] ∨ (keepSites keep n l).getD i [] = l.getD i []
  | [], n, i => by simp [keepSites]
  | v :: l, n, 0 => by
    simp only [keepSites, List.getD_cons_zero]
    split
    · exact .inr rfl
    · exact .inl rfl
  | v :: l, n, i + 1 => by
    simp only [keepSites, List.getD_cons_succ]
    exact site_keep keep l (n + 1) i

theorem mem_slots {s : AS} (i : Nat) : s.slot i = .undef ∨ s.slot i ∈ s.slots := by
  unfold AS.slot
  rw [List.getD_eq_getElem?_getD]
  cases h : s.slots[i]? with
  | none => exact .inl rfl
  | some v => exact .inr (List.mem_of_getElem? h)

theorem ent_mem {s : AS} {id : Id} {e : Ent} (h : s.ent id = some e) : e ∈ s.olds ∨ ∃ es ∈ s.news, e ∈ es := by
  cases id with
  | old k => exact .inl (List.mem_of_getElem? h)
  | new i j =>
    simp only [AS.ent, List.getD_eq_getElem?_getD] at h
    cases hi : s.news[i]? with
    | none => rw [hi] at h; simp at h
    | some es => rw [hi] at h; exact .inr ⟨es, List.mem_of_getElem? hi, List.mem_of_getElem? h⟩

/-- Does all that is kept go to objects that are kept? -/
theorem Inv.keep (h : Inv C g β s a w) (hC : ∀ i j, C.E.s (.new i j) = none) {an : LoopAnn} (ht : (keepOnly an s).allThere = true) : Inv C g β (keepOnly an s) a w := by
  obtain ⟨ks, kt, _, _, _⟩ := an
  obtain ⟨s1, hs1⟩ : ∃ s1 : AS, s1 = { slots := keepSlots ks 0 s.slots, olds := s.olds, news := keepSites kt 0 s.news } := ⟨_, rfl⟩
  have e1 : s1.slots = keepSlots ks 0 s.slots := by rw [hs1]
  have e2 : s1.olds = s.olds := by rw [hs1]
  have e3 : s1.news = keepSites kt 0 s.news := by rw [hs1]
  have ht : (s1.slots.all (AVal.there s1) && s1.olds.all (Ent.there s1) && s1.news.all fun es => es.all (Ent.there s1)) = true := by rw [hs1]; exact ht
  show Inv C g β { slots := keepSlots ks 0 s.slots, olds := s.olds, news := keepSites kt 0 s.news } a w
  rw [← hs1]
  rw [Bool.and_eq_true, Bool.and_eq_true] at ht
  obtain ⟨⟨t1, t2⟩, t3⟩ := ht
  have hent : ∀ id, s1.ent id = none ∨ s1.ent id = s.ent id := fun id => by
    cases id with
    | old k => right; simp only [AS.ent, e2]
    | new i j =>
      simp only [AS.ent, e3]
      rcases site_keep kt s.news 0 i with h | h
      · rw [h]; exact .inl rfl
      · rw [h]; exact .inr rfl
  have hobj : ∀ id, (s1.obj id).isSome = true → s1.ent id = s.ent id := fun id hi => by
    rcases hent id with h | h
    · simp [AS.obj, h] at hi
    · exact h
  let ρ : Ren := fun id ver => if (s1.obj id).isSome = true then some (id, ver) else none
  have hρ : ∀ v : AVal, v.there s1 = true → v.ren ρ = v := fun v hv => ren_same v fun id hid ver => if_pos (there_ids v hv id hid)
  have hle : RenLe ρ (s.env w g β) (s1.env w g β) := by
    refine ⟨⟨fun _ _ _ h => h, fun _ _ h h' => ⟨h, h'⟩⟩, fun id ver r hr hb => ?_⟩
    by_cases hi : (s1.obj id).isSome = true
    · have : ρ id ver = some (id, ver) := if_pos hi
      rw [this, Option.some.injEq] at hr
      subst hr
      have e := hobj id hi
      obtain ⟨b1, b2⟩ := hb
      exact ⟨⟨by show s1.ent id ≠ none; rw [e]; exact b1, fun v fr c hh => b2 v fr c (e.symm.trans hh)⟩, fun ⟨fr, c, hc⟩ => ⟨⟨fr, c, e.symm.trans hc⟩, rfl⟩⟩
    · have : ρ id ver = none := if_neg hi
      rw [this] at hr; cases hr
  refine h.renamed hC ρ (by rw [e1, len_keepSlots]) hle (fun i => ?_) (fun id ver fr c hid => ?_) fun k => ⟨by simp only [AS.ent, e2], rfl⟩
  · rcases mem_slots (s := s1) i with hi | hi
    · rw [hi]; exact VS.undef
    · have hth := List.all_eq_true.1 t1 _ hi
      rcases slot_keep ks s.slots 0 i with h1 | h1
      · have : s1.slot i = .undef := by simp only [AS.slot, e1, h1]
        rw [this]; exact VS.undef
      · have : s1.slot i = s.slot i := by simp only [AS.slot, e1, h1]
        have hv := VS_ren hle (h.slots i)
        rw [← this, hρ _ hth] at hv
        exact hv
  · have : s1.ent id = s.ent id := by
      rcases hent id with h | h
      · rw [h] at hid; cases hid
      · exact h
    have hc : c.there s1 = true := by
      rcases ent_mem hid with h | ⟨es, h1, h2⟩
      · exact List.all_eq_true.1 t2 _ h
      · exact List.all_eq_true.1 (List.all_eq_true.1 t3 _ h1) _ h2
    exact ⟨ver, this.symm.trans hid, hρ c hc, rfl⟩

theorem Inv.drop (h : Inv C g β s a w) (ks : List Nat) : Inv C g β (s.drop ks) a w := by
  refine ⟨h.defers, by simpa [AS.drop, len_keepSlots] using h.size, fun i => ?_, h.objs, h.trans, h.le⟩
  rcases slot_keep ks s.slots 0 i with h1 | h1
  · have : (s.drop ks).slot i = .undef := h1
    rw [this]; exact VS.undef
  · have : (s.drop ks).slot i = s.slot i := h1
    rw [this]; exact h.slots i

def relabL (i i' : Id) : Lab → Lab
  | .own (.id x) k => if x = i then .own (.id i') k else .own (.id x) k
  | l => l
theorem Trans.relab (w : World) (g : Nat → Lab) (i i' : Id) : Trans w w g fun b => relabL i i' (g b) := by
  refine ⟨rfl, rfl, rfl, Nat.le_refl _, fun b _ => ?_⟩
  cases hg : g b with
  | free => exact ⟨by simp [relabL], rfl⟩
  | own o k => cases o with
    | foreign => exact ⟨by simp [relabL], rfl⟩
    | id x =>
      refine ⟨.inr ?_, fun _ _ _ h => h⟩
      simp only [relabL]
      split
      · exact ⟨_, _, rfl, Nat.le_refl _⟩
      · exact ⟨_, _, rfl, Nat.le_refl _⟩

theorem slot_map (f : AVal → AVal) (hf : f .undef = .undef) (l : List AVal) (i : Nat) : (l.map f).getD i .undef = f (l.getD i .undef) := by
  simp only [List.getD_eq_getElem?_getD, List.getElem?_map]
  cases l[i]? <;> simp [hf]

theorem Inv.renum (h : Inv C g β s a w) (hC : ∀ i j, C.E.s (.new i j) = none) {b v q : Nat} {fr : Bool} {c : AVal} (hob : s.obj (.new b 0) = some (v, fr, c)) (hm : s.movable q b = true) :
    ∃ g1 β1, Inv C g1 β1 (s.renum b v q fr c) a w := by
  have hent := obj_some hob
  unfold AS.movable at hm
  simp only [Bool.and_eq_true, Bool.or_eq_true, decide_eq_true_eq] at hm
  obtain ⟨hsb, hsq⟩ := hm
  have hone : ∀ x, single s.news[x]? = true → x < s.news.length ∧ ∀ j', s.ent (.new x (j' + 1)) = none := fun x hx => by
    unfold single at hx
    split at hx
    · rename_i y hy; exact ⟨(List.getElem?_eq_some_iff.1 hy).1, fun j' => by simp [AS.ent, List.getD_eq_getElem?_getD, hy]⟩
    · cases hx
  obtain ⟨hbl, hb1⟩ := hone b hsb
  have hq : q < s.news.length ∧ ∀ j', s.ent (.new q (j' + 1)) = none := by
    rcases hsq with (hsq | hsq) | hsq
    · subst hsq; exact ⟨hbl, hb1⟩
    · exact hone q hsq
    · exact ⟨(virgin_ent hsq).2, fun j' => (virgin_ent hsq).1 _⟩
  obtain ⟨hql, hq1⟩ := hq
  let ρ : Ren := renTo (.new b 0) v q
  let s1 := s.renum b v q fr c
  have hself : ∀ j', s1.ent (.new q j') = [Ent.obj 0 fr (c.ren ρ)][j']? := fun j' => by
    simp [s1, AS.renum, AS.ent, List.getD_eq_getElem?_getD, hql, ρ]
  have hgone : b ≠ q → ∀ j', s1.ent (.new b j') = none := fun hbq j' => by
    have hbq' : ¬ q = b := fun e => hbq e.symm
    simp only [s1, AS.renum, AS.ent, List.getD_eq_getElem?_getD]
    rw [List.getElem?_set_ne hbq', List.getElem?_set, if_pos rfl]
    split <;> simp
  have hoth : ∀ i, (∀ j', i ≠ .new q j') → (∀ j', i ≠ .new b j') → s1.ent i = (s.ent i).map (Ent.ren ρ) := fun i hi hi' => by
    cases i with
    | old k => simp [s1, AS.renum, AS.ent, ρ]
    | new x y =>
      have h1 : ¬ q = x := fun e => hi y (by rw [e])
      have h2 : ¬ b = x := fun e => hi' y (by rw [e])
      simp only [s1, AS.renum, AS.ent, List.getD_eq_getElem?_getD]
      rw [List.getElem?_set_ne h1, List.getElem?_set_ne h2, List.getElem?_map]
      cases s.news[x]? <;> simp [ρ]
  let g1 : Nat → Lab := fun x => relabL (.new b 0) (.new q 0) (g x)
  let β1 : Id → Option Pl := fun i => if i = .new q 0 then β (.new b 0) else β i
  have ht : Trans w w g g1 := Trans.relab w g _ _
  have hρ : ∀ i ver r, ρ i ver = some r → (i = .new b 0 ∧ ver = v ∧ r = (.new q 0, 0)) ∨ (i ≠ .new b 0 ∧ i ≠ .new q 0 ∧ r = (i, ver)) := fun i ver r hr => by
    have hr : renTo (.new b 0) v q i ver = some r := hr
    unfold renTo at hr
    split at hr
    · rename_i hi
      have hi : i = .new b 0 := by simpa using hi
      split at hr
      · rename_i hv
        exact .inl ⟨hi, by simpa using hv, (Option.some.inj hr).symm⟩
      · cases hr
    · rename_i hi
      have hi : ¬ i = .new b 0 := by simpa using hi
      split at hr
      · cases hr
      · rename_i hi'
        have hi' : ¬ i = .new q 0 := by simpa using hi'
        exact .inr ⟨hi, hi', (Option.some.inj hr).symm⟩
  have hle : RenLe ρ (s.env w g β) (s1.env w g1 β1) := by
    refine ⟨Trans.mem (E := s.env w g β) (E' := s1.env w g1 β1) ht, fun i ver r hr hbd => ?_⟩
    rcases hρ i ver r hr with ⟨rfl, rfl, rfl⟩ | ⟨hi, hi', rfl⟩
    · refine ⟨⟨by show s1.ent (.new q 0) ≠ none; rw [hself]; simp, fun _ _ _ _ => Nat.zero_le _⟩, fun _ => ⟨⟨fr, c, hent⟩, if_pos rfl⟩⟩
    · obtain ⟨k1, k2⟩ := hbd
      have k1 : s.ent i ≠ none := k1
      have e : s1.ent i = (s.ent i).map (Ent.ren ρ) := hoth i (fun j' e => by
          cases j' with
          | zero => exact hi' e
          | succ j' => exact k1 (by rw [e]; exact hq1 j')) (fun j' e => by
          cases j' with
          | zero => exact hi e
          | succ j' => exact k1 (by rw [e]; exact hb1 j'))
      have back : ∀ v' fr' c', s1.ent i = some (.obj v' fr' c') → ∃ c0, s.ent i = some (.obj v' fr' c0) := fun v' fr' c' hh => by
        rw [e] at hh
        cases hs : s.ent i with
        | none => exact absurd hs k1
        | some en =>
          rw [hs] at hh
          cases en with
          | dead => simp [Ent.ren] at hh
          | obj v0 fr0 c0 =>
            simp only [Option.map_some, Ent.ren, Option.some.injEq, Ent.obj.injEq] at hh
            obtain ⟨rfl, rfl, _⟩ := hh
            exact ⟨c0, rfl⟩
      refine ⟨⟨by
        show s1.ent i ≠ none
        rw [e]
        cases hs : s.ent i with
        | none => exact absurd hs k1
        | some en => simp, fun v' fr' c' hh => ?_⟩, fun ⟨fr', c', hh⟩ => ?_⟩
      · obtain ⟨c0, hc0⟩ := back v' fr' c' hh
        exact k2 v' fr' c0 hc0
      · obtain ⟨c0, hc0⟩ := back ver fr' c' hh
        exact ⟨⟨fr', c0, hc0⟩, if_neg hi'⟩
  refine ⟨g1, β1, h.renamedTo hC ρ (by simp [AS.renum]) ht hle (fun i => ?_) (fun id ver fr' c' hid => ?_) fun k => ⟨fun hk => ?_, fun v' fr' c' hh => ?_, if_neg (by simp)⟩⟩
  · have : (s.renum b v q fr c).slot i = (s.slot i).ren ρ := slot_map _ rfl _ _
    rw [this]
    exact VS_ren hle (h.slots i)
  · have hid : s1.ent id = some (.obj ver fr' c') := hid
    by_cases hi : ∃ j', id = .new q j'
    · obtain ⟨j', rfl⟩ := hi
      rw [hself] at hid
      cases j' with
      | zero =>
        simp only [List.getElem?_cons_zero, Option.some.injEq, Ent.obj.injEq] at hid
        obtain ⟨_, rfl, rfl⟩ := hid
        exact ⟨.new b 0, v, c, hent, rfl, if_pos rfl, fun pl hp => ⟨fun k hk => by simp [g1, hk, relabL], fun hk => by simp [g1, hk, relabL]⟩⟩
      | succ j' => simp at hid
    · by_cases hi' : ∃ j', id = .new b j'
      · obtain ⟨j', rfl⟩ := hi'
        have hbq : b ≠ q := fun e => hi ⟨j', by rw [e]⟩
        rw [hgone hbq] at hid; cases hid
      · have e := hoth id (fun j' e => hi ⟨j', e⟩) (fun j' e => hi' ⟨j', e⟩)
        rw [e] at hid
        cases hs : s.ent id with
        | none => rw [hs] at hid; cases hid
        | some en =>
          rw [hs] at hid
          cases en with
          | dead => simp [Ent.ren] at hid
          | obj v0 fr0 c0 =>
            simp only [Option.map_some, Ent.ren, Option.some.injEq, Ent.obj.injEq] at hid
            obtain ⟨rfl, rfl, rfl⟩ := hid
            have hne : id ≠ .new b 0 := fun e => hi' ⟨0, e⟩
            exact ⟨id, v0, c0, hs, rfl, if_neg fun e => hi ⟨0, e⟩, fun pl hp => ⟨fun k hk => by simp [g1, hk, relabL, hne], fun hk => by simp [g1, hk, relabL]⟩⟩
  · have e := hoth (.old k) (fun _ => by simp) (fun _ => by simp)
    show s1.ent (.old k) ≠ none
    rw [e]
    cases hs : s.ent (.old k) with
    | none => exact absurd hs hk
    | some en => simp
  · have e := hoth (.old k) (fun _ => by simp) (fun _ => by simp)
    have hh : s1.ent (.old k) = some (.obj v' fr' c') := hh
    rw [e] at hh
    cases hs : s.ent (.old k) with
    | none => rw [hs] at hh; cases hh
    | some en =>
      rw [hs] at hh
      cases en with
      | dead => simp [Ent.ren] at hh
      | obj v0 fr0 c0 =>
        simp only [Option.map_some, Ent.ren, Option.some.injEq, Ent.obj.injEq] at hh
        obtain ⟨rfl, rfl, _⟩ := hh
        exact ⟨c0, rfl⟩

theorem splice_same {l : List Value} {n : Nat} {vs : List Value} (h : (l.drop n).take vs.length = vs) : splice l n vs = l := by
  unfold splice
  have h2 : l.drop n = vs ++ l.drop (n + vs.length) := by
    conv => lhs; rw [← List.take_append_drop vs.length (l.drop n)]
    rw [h, List.drop_drop]
  have h3 := List.take_append_drop n l
  rw [h2] at h3
  simpa [List.append_assoc] using h3

/-- An empty slice where nil stood. -/
theorem Inv.nilAt (h : Inv C g β s a w) {j : Nat} {p : List Stp} (hat : (s.at j p).eval = some .nils) {q : Nat} (hq : s.virgin q = true) {e : TypeId} {t : Ty} (hz : 0 < t.size) {s' : AS}
    (he : ((s.born q [.obj 0 false (.vec e t [])]).putAt j (.sref (.new q 0) 0 [] 0 0 0) p).eval = some s') : Sts C s' a w := by
  obtain ⟨β', h1, h2, h3⟩ := h.nilVec hq (e := e) hz
  cases p with
  | nil =>
    simp only [AS.at] at hat
    have hj := eval_ok.1 hat
    simp only [AS.putAt] at he
    obtain rfl := eval_ok.1 he
    refine ⟨g, β', h1.see j ?_⟩
    have := h.slots j
    rw [hj] at this
    rw [nils_of this]
    exact h3
  | cons st p =>
    simp only [AS.at] at hat
    simp only [AS.putAt] at he
    have hslot : (s.born q [.obj 0 false (.vec e t [])]).slot j = s.slot j := rfl
    rw [hslot] at he
    split at hat
    · rename_i id ver hj
      split at hat
      · rename_i v fr c hob
        obtain ⟨hv, hat⟩ := eval_guard.1 hat
        obtain ⟨⟨n, u⟩, hl, hat⟩ := eval_bind.1 hat
        have hu := eval_ok.1 hat
        simp only at hu
        subst hu
        have hent := obj_some hob
        have hne : id ≠ .new q 0 := fun e => by rw [e, (virgin_ent hq).1 0] at hent; cases hent
        have hne' : ∀ j', id ≠ .new q j' := fun j' e => by rw [e, (virgin_ent hq).1 j'] at hent; cases hent
        have hent1 : (s.born q [.obj 0 false (.vec e t [])]).ent id = some (.obj v fr c) := (ent_born_other _ hne').trans hent
        have hob1 : (s.born q [.obj 0 false (.vec e t [])]).obj id = some (v, fr, c) := by simp only [AS.obj, hent1]
        simp only [hj, hob1] at he
        split at he
        · simp only [eval_fail] at he
        · rename_i c1 hc1
          obtain ⟨c', hup, he⟩ := eval_bind.1 he
          obtain rfl := eval_ok.1 he
          have hn : c.isVec = false := by
            cases c <;> first | rfl | (exact (hc1 _ _ _ rfl).elim)
          have hO := h1.objs id v fr c hent1
          obtain ⟨pl, cur, e0, hp, hh, hg, hk, hV⟩ := hO.box hn
          have ht := Trans.refl w g
          have hle := EnvLe.setEnt (s := s.born q [.obj 0 false (.vec e t [])]) (β := β') (v' := v) (fr' := fr) (c' := c.wrap c') hent1 (Nat.le_refl _) ht (fun _ _ => rfl) (fun _ => rfl)
          refine ⟨g, β', h1.step (slots_setEnt _ _ _) ht hle (Objs.setEnt h1.objs (by rw [hent1]; simp) hle (fun _ _ => rfl) (fun _ _ _ _ _ _ _ _ => ⟨rfl, rfl⟩) ?_)⟩
          obtain ⟨cs, k1, k2⟩ := h3
          have k2 : cs = [.slice none 0 0] := k2
          subst k2
          obtain ⟨u1, u2, u3⟩ := upd_sound (st :: p) c.strip cur.toList n .nils _ c' [.slice none 0 0] (VO.of hV) hl k1 hup
          have u4 := u2.to (u3.notVec hV.notVec)
          have hcell : (cur.toList.drop n).take 1 = [.slice none 0 0] := by
            rcases loc_sound (st :: p) c.strip cur.toList n .nils (VO.of hV) hl with ⟨hn0, hc0⟩ | ⟨q1, q2⟩
            · rw [← hc0] at hV
              simp only [V] at hV
              rw [hV, hn0]
              rfl
            · simpa only [V, AVal.size] using q1
          rw [splice_same (vs := [.slice none 0 0]) hcell] at u4
          exact BoxR.obj ⟨pl, cur, e0, hp, hh, hg, boxOk_wrap hk u4.notBx, by rw [strip_wrap c u4.notBx]; exact V.mono hle u4⟩
      · simp only [eval_fail] at hat
    · simp only [eval_fail] at hat

theorem ent_freezeAll : ∀ (ids : List Id) {s : AS} {i : Id} {v : Nat} {fr : Bool} {c : AVal}, s.ent i = some (.obj v fr c) → ∃ fr', (s.freezeAll ids).ent i = some (.obj v fr' c)
  | [], s, i, v, fr, c, h => ⟨fr, h⟩
  | id :: ids, s, i, v, fr, c, h => by
    obtain ⟨fr', h'⟩ := ent_freeze (id := id) h
    exact ent_freezeAll ids h'

/-- Data where something stood. -/
theorem Inv.datAt (h : Inv C g β s a w) {j : Nat} {p : List Stp} {u : AVal} (hat : (s.at j p).eval = some u) {t : Ty} {x : t.den} (ht : (s.toTy t u).eval = some x) {s' : AS}
    (he : ((s.freezeAll u.shared).putAt j (.d t x) p).eval = some s') : Sts C s' a w := by
  cases p with
  | nil =>
    simp only [AS.at] at hat
    have hj := eval_ok.1 hat
    simp only [AS.putAt] at he
    obtain rfl := eval_ok.1 he
    have hs := h.slots j
    rw [hj] at hs
    obtain ⟨g', i1, _, _, cs, hR, hO⟩ := toTy_sound h hs ht
    exact ⟨g', β, i1.see j (VS.of (a := .d t x) (cs := cs) (by simpa only [V] using hR) hO)⟩
  | cons st p =>
    simp only [AS.at] at hat
    simp only [AS.putAt] at he
    have hslot : (s.freezeAll u.shared).slot j = s.slot j := by simp only [AS.slot, slots_freezeAll]
    rw [hslot] at he
    split at hat
    · rename_i id ver hj
      split at hat
      · rename_i v fr c hob
        obtain ⟨hv, hat⟩ := eval_guard.1 hat
        obtain ⟨⟨n, u'⟩, hl, hat⟩ := eval_bind.1 hat
        have hu := eval_ok.1 hat
        simp only at hu
        subst hu
        have hent := obj_some hob
        obtain ⟨g', h1, h2, h3, h4⟩ := freezeAll_sound u'.shared h
        obtain ⟨fr', hent1⟩ := ent_freezeAll u'.shared hent
        have hob1 : (s.freezeAll u'.shared).obj id = some (v, fr', c) := by simp only [AS.obj, hent1]
        simp only [hj, hob1] at he
        split at he
        · simp only [eval_fail] at he
        · rename_i c1 hc1
          obtain ⟨c', hup, he⟩ := eval_bind.1 he
          obtain rfl := eval_ok.1 he
          have hn : c.isVec = false := by
            cases c <;> first | rfl | (exact (hc1 _ _ _ rfl).elim)
          obtain ⟨pl0, cur0, e00, hp0, hh0, hg0, hk0, hV0⟩ := (h.objs id v fr c hent).box hn
          obtain ⟨pl, cur, e0, hp, hh, hg, hk, hV⟩ := (h1.objs id v fr' c hent1).box hn
          have hpl : pl0 = pl := by
            have hp0 : β id = some pl0 := hp0
            have hp : β id = some pl := hp
            rw [hp0] at hp
            exact Option.some.inj hp
          subst hpl
          have hcur : cur0 = cur := by
            have hh0 : w.heap[pl0.b]? = _ := hh0
            have hh : w.heap[pl0.b]? = _ := hh
            rw [hh0] at hh
            simpa using (congrArg (fun o => match o with | some (.cells x _ _) => x | _ => cur0) hh)
          subst hcur
          obtain ⟨cs, hVu, hcell⟩ : ∃ cs, V (s.env w g β) u' cs ∧ (cur0.toList.drop n).take cs.length = cs := by
            rcases loc_sound (st :: p) c.strip cur0.toList n u' (VO.of hV0) hl with ⟨hn0, hc0⟩ | ⟨q1, q2⟩
            · refine ⟨cur0.toList, by rw [hc0]; exact hV0, ?_⟩
              rw [hn0, List.drop_zero, List.take_length]
            · refine ⟨_, q1, ?_⟩
              rw [List.length_take, List.length_drop]
              congr 1
              omega
          have hR := toTy_rep rfl h.objs h2 u' t x cs hVu ht h4
          have hVx : V ((s.freezeAll u'.shared).env w g' β) (.d t x) cs := by simpa only [V] using hR
          have ht' := Trans.refl w g'
          have hle := EnvLe.setEnt (s := s.freezeAll u'.shared) (β := β) (v' := v) (fr' := fr') (c' := c.wrap c') hent1 (Nat.le_refl _) ht' (fun _ _ => rfl) (fun _ => rfl)
          refine ⟨g', β, h1.step (slots_setEnt _ _ _) ht' hle (Objs.setEnt h1.objs (by rw [hent1]; simp) hle (fun _ _ => rfl) (fun _ _ _ _ _ _ _ _ => ⟨rfl, rfl⟩) ?_)⟩
          obtain ⟨u1, u2, u3⟩ := upd_sound (st :: p) c.strip cur0.toList n u' _ c' cs (VO.of hV) hl hVx hup
          have u4 := u2.to (u3.notVec hV.notVec)
          rw [splice_same (vs := cs) hcell] at u4
          exact BoxR.obj ⟨pl0, cur0, e0, hp, hh, hg, boxOk_wrap hk u4.notBx, by rw [strip_wrap c u4.notBx]; exact V.mono hle u4⟩
      · simp only [eval_fail] at hat
    · simp only [eval_fail] at hat

theorem dats_sound : ∀ (l : List Dat) {s s1 : AS}, Sts C s a w → (datsA s l).eval = some s1 → Sts C s1 a w
  | [], s, s1, h, he => by
    simp only [datsA] at he
    obtain rfl := eval_ok.1 he
    exact h
  | o :: l, s, s1, h, he => by
    obtain ⟨g, β, h⟩ := h
    simp only [datsA] at he
    obtain ⟨u, hu, he⟩ := eval_bind.1 he
    obtain ⟨x, hx, he⟩ := eval_bind.1 he
    obtain ⟨s', hs, he⟩ := eval_bind.1 he
    exact dats_sound l (h.datAt hu hx hs) he

theorem promote_sound (hC : ∀ i j, C.E.s (.new i j) = none) : ∀ (l : List Own') {s s1 : AS}, Sts C s a w → (promote P s l).eval = some s1 → Sts C s1 a w
  | [], s, s1, h, he => by
    simp only [promote] at he
    obtain rfl := eval_ok.1 he
    exact h
  | o :: l, s, s1, h, he => by
    obtain ⟨g, β, h⟩ := h
    simp only [promote] at he
    obtain ⟨u, hu, he⟩ := eval_bind.1 he
    split at he
    · split at he
      · rename_i e t b hel hv
        obtain ⟨s', h1, h2⟩ := eval_bind.1 he
        exact promote_sound hC l (h.nilAt hu hv (elemOfT_sound hel).2.1 h1) h2
      · simp only [eval_fail] at he
    · split at he
      · rename_i b ver hhead
        split at he
        · rename_i v fr c hob hm
          split at he
          · obtain ⟨g1, β1, h1⟩ := h.renum hC hob hm
            exact promote_sound hC l ⟨g1, β1, h1⟩ he
          · simp only [eval_fail] at he
        · simp only [eval_fail] at he
      · simp only [eval_fail] at he

theorem trim_sound : ∀ (l : List Nat) {s s1 : AS}, Sts C s a w → (trimA s l).eval = some s1 → Sts C s1 a w
  | [], s, s1, h, he => by
    simp only [trimA] at he
    obtain rfl := eval_ok.1 he
    exact h
  | j :: l, s, s1, h, he => by
    obtain ⟨g, β, h⟩ := h
    simp only [trimA] at he
    split at he
    · rename_i id ver len hj
      split at he
      · rename_i v e t r hob
        split at he
        · obtain ⟨h1, h2⟩ := eval_chk.1 he
          have h1 : len ≤ r.length := by simpa using h1
          refine trim_sound l ?_ h2
          have hent := obj_some hob
          have hO : ObjR (s.env w g β) id false (.vec e t r) := h.objs id v false _ hent
          have ht := Trans.refl w g
          have hle : EnvLe (s.env w g β) ((s.setEnt id (.obj v false (.vec e t (r.take len)))).env w g β) := EnvLe.setEnt hent (Nat.le_refl _) ht (fun _ _ => rfl) (fun _ => rfl)
          refine ⟨g, β, h.step (slots_setEnt _ _ _) ht hle (Objs.setEnt h.objs (by rw [hent]; simp) hle (fun _ _ => rfl) (fun _ _ _ _ _ _ _ _ => ⟨rfl, rfl⟩) ?_)⟩
          obtain ⟨hz, hO⟩ := hO
          refine ⟨hz, ?_⟩
          have hO : (match β id with
            | none => r = []
            | some pl => ∃ cur k, w.heap[pl.b]? = some (.cells cur e (0, 0)) ∧ cur.size = pl.cap * t.size ∧ r.length ≤ pl.cap ∧ pl.cap ≤ maxLen ∧ g pl.b = .own (.id id) k ∧
                k ≤ r.length * t.size ∧ (false = false → k = 0) ∧ Chunks (Rep (s.env w g β) t) (cur.toList.take (r.length * t.size)) r) := hO
          show (match β id with
            | none => r.take len = []
            | some pl => _)
          cases hp : β id with
          | none => rw [hp] at hO; simp only at hO; subst hO; simp
          | some pl =>
            rw [hp] at hO
            obtain ⟨cur, k, q1, q2, q3, q4, q5, q6, q7, q8⟩ := hO
            have hk := q7 rfl
            subst hk
            have hlen : (r.take len).length = len := by simp; omega
            refine ⟨cur, 0, q1, q2, by omega, q4, q5, Nat.zero_le _, fun _ => rfl, ?_⟩
            have := Chunks.take (fun _ _ hx => Rep.size hx) len q8
            rw [List.take_take, Nat.min_eq_left (Nat.mul_le_mul_right _ h1)] at this
            rw [hlen]
            exact this.mono fun _ _ hx => hx.mono hle.mem
        · simp only [eval_fail] at he
      · simp only [eval_fail] at he
    · simp only [eval_fail] at he

theorem asData_sound : ∀ (l : List (Nat × Ty)) {s s1 : AS}, Sts C s a w → (asData s l).eval = some s1 → Sts C s1 a w
  | [], s, s1, h, he => by
    simp only [asData] at he
    obtain rfl := eval_ok.1 he
    exact h
  | (j, t) :: l, s, s1, h, he => by
    obtain ⟨g, β, h⟩ := h
    simp only [asData] at he
    obtain ⟨x, h1, h2⟩ := eval_bind.1 he
    obtain ⟨g', i1, _, _, cs, hR, hO⟩ := toTy_sound h (h.slots j) h1
    exact asData_sound l ⟨g', β, i1.see j (VS.of (a := .d t x) (cs := cs) (by simpa only [V] using hR) hO)⟩ h2

theorem norm_sound (hC : ∀ i j, C.E.s (.new i j) = none) {an : LoopAnn} {s1 : AS} (h : Sts C s a w) (he : (norm P an s).eval = some s1) : Sts C s1 a w := by
  unfold norm at he
  obtain ⟨sd, h0d, he⟩ := eval_bind.1 he
  obtain ⟨s0, h1, h2⟩ := eval_bind.1 he
  obtain ⟨h3, h4⟩ := eval_guard.1 h2
  obtain ⟨g0, β0, h0⟩ := h
  obtain ⟨g1, i1, _⟩ := freezeAll_sound an.frz h0
  obtain ⟨g, β, h⟩ := asData_sound _ (dats_sound _ ⟨g1, β0, i1⟩ h0d) h1
  exact promote_sound hC _ ⟨g, β, h.keep hC h3⟩ h4

end
end Go.Ab
