/-
  Loops' heads: what is kept of a state; results; what a function leaves.
-/
import Derived.Test.YtdmpbapgnkdjpaaAb24
namespace Go.Ab

theorem ren_same {ρ : Ren} : ∀ (v : AVal), (∀ id ∈ v.ids, ∀ ver, ρ id ver = some (id, ver)) → v.ren ρ = v
  | .ptr id ver p n, h => by simp only [AVal.ren]; rw [h id (by simp [AVal.ids])]
  | .sref id ver p c i len, h => by simp only [AVal.ren]; rw [h id (by simp [AVal.ids])]
  | .pr a b, h => by simp only [AVal.ren]; rw [ren_same a fun id hid => h id (by simp [AVal.ids, hid]), ren_same b fun id hid => h id (by simp [AVal.ids, hid])]
  | .cons a b, h => by simp only [AVal.ren]; rw [ren_same a fun id hid => h id (by simp [AVal.ids, hid]), ren_same b fun id hid => h id (by simp [AVal.ids, hid])]
  | .fn f c, h => by simp only [AVal.ren]; rw [ren_same c fun id hid => h id (by simpa [AVal.ids] using hid)]
  | .undef, _ | .gone, _ | .nils, _ | .nilp, _ | .nilf, _ | .nilm, _ | .d _ _, _ | .rptr _ _, _ | .nil, _ | .vec .., _ | .sb _, _ => rfl

theorem there_ids {s : AS} : ∀ (v : AVal), v.there s = true → ∀ id ∈ v.ids, (s.obj id).isSome = true
  | .ptr id ver p n, h, i, hi => by simp only [AVal.ids, List.mem_singleton] at hi; subst hi; exact h
  | .sref id ver p c j len, h, i, hi => by simp only [AVal.ids, List.mem_singleton] at hi; subst hi; exact h
  | .pr a b, h, i, hi => by
    simp only [AVal.there, Bool.and_eq_true] at h
    simp only [AVal.ids, List.mem_append] at hi
    rcases hi with hi | hi
    · exact there_ids a h.1 i hi
    · exact there_ids b h.2 i hi
  | .cons a b, h, i, hi => by
    simp only [AVal.there, Bool.and_eq_true] at h
    simp only [AVal.ids, List.mem_append] at hi
    rcases hi with hi | hi
    · exact there_ids a h.1 i hi
    · exact there_ids b h.2 i hi
  | .fn f c, h, i, hi => there_ids c h i hi
  | .undef, _, _, hi | .gone, _, _, hi | .nils, _, _, hi | .nilp, _, _, hi | .nilf, _, _, hi | .nilm, _, _, hi | .d _ _, _, _, hi | .rptr _ _, _, _, hi | .nil, _, _, hi | .vec .., _, _, hi | .sb _, _, _, hi => by cases hi

theorem noRef_ids {x : Id} : ∀ (v : AVal), v.noRef x = true → x ∉ v.ids
  | .ptr id ver p n, h, hi => by simp only [AVal.ids, List.mem_singleton] at hi; simp [AVal.noRef, hi] at h
  | .sref id ver p c j len, h, hi => by simp only [AVal.ids, List.mem_singleton] at hi; simp [AVal.noRef, hi] at h
  | .pr a b, h, hi => by
    simp only [AVal.noRef, Bool.and_eq_true] at h
    simp only [AVal.ids, List.mem_append] at hi
    rcases hi with hi | hi
    · exact noRef_ids a h.1 hi
    · exact noRef_ids b h.2 hi
  | .cons a b, h, hi => by
    simp only [AVal.noRef, Bool.and_eq_true] at h
    simp only [AVal.ids, List.mem_append] at hi
    rcases hi with hi | hi
    · exact noRef_ids a h.1 hi
    · exact noRef_ids b h.2 hi
  | .fn f c, h, hi => noRef_ids c h hi
  | .undef, _, hi | .gone, _, hi | .nils, _, hi | .nilp, _, hi | .nilf, _, hi | .nilm, _, hi | .d _ _, _, hi | .rptr _ _, _, hi | .nil, _, hi | .vec .., _, hi | .sb _, _, hi => by cases hi

section
variable {P : Program} {C : Ctx} {g : Nat → Lab} {β : Id → Option Pl} {s : AS} {a : Act} {w : World}

/-- A state that knows less, of objects that may bear other names. -/
theorem Inv.renamedTo (h : Inv C g β s a w) (hC : ∀ i j, C.E.s (.new i j) = none) {s1 : AS} {g1 : Nat → Lab} {β1 : Id → Option Pl} (ρ : Ren) (hlen : s1.slots.length = s.slots.length) (ht : Trans w w g g1) (hle : RenLe ρ (s.env w g β) (s1.env w g1 β1))
    (hslot : ∀ i, VS (s1.env w g1 β1) (s1.slot i) (a.tmps.getD i undef))
    (hent : ∀ id ver fr c, s1.ent id = some (.obj ver fr c) → ∃ id0 v0, s.ent id0 = some (.obj v0 fr c) ∧ c.ren ρ = c ∧ β1 id = β id0 ∧ ∀ pl, β id0 = some pl → (∀ k, g pl.b = .own (.id id0) k → g1 pl.b = .own (.id id) k) ∧ (g pl.b = .free → g1 pl.b = .free))
    (hold : ∀ k, s1.ent (.old k) = s.ent (.old k) ∧ β1 (.old k) = β (.old k)) : Inv C g1 β1 s1 a w := by
  refine ⟨h.defers, by rw [hlen]; exact h.size, hslot, fun id ver fr c hid => ?_, h.trans.trans ht, ?_⟩
  · obtain ⟨id0, v0, h1, h2, h3, h4⟩ := hent id ver fr c hid
    have := ObjR_ren hle (h.objs id0 v0 fr c h1) (id' := id) h3 fun pl hp => ⟨rfl, (h4 pl hp).1, (h4 pl hp).2⟩
    rw [h2] at this
    exact this
  · have hl := h.le
    have ho : ∀ id ver, C.E.bnd id ver → ∃ k, id = .old k := fun id ver hb => by
      cases id with
      | old k => exact ⟨k, rfl⟩
      | new i j => exact absurd (hC i j) hb.1
    refine ⟨hl.mem.trans (Trans.mem (E := s.env w g β) (E' := s1.env w g1 β1) ht), fun id ver hb => ?_, fun id ver hb hc => ?_⟩
    · obtain ⟨k, rfl⟩ := ho id ver hb
      obtain ⟨h1, h2⟩ := hl.bnd _ ver hb
      have e := (hold k).1
      exact ⟨by show s1.ent (.old k) ≠ none; rw [e]; exact h1, fun v fr c hh => h2 v fr c (e.symm.trans hh)⟩
    · obtain ⟨k, rfl⟩ := ho id ver hb
      obtain ⟨fr, c, hc⟩ := hc
      have e := (hold k).1
      obtain ⟨h1, h2⟩ := hl.cur _ ver hb ⟨fr, c, e.symm.trans hc⟩
      exact ⟨h1, (hold k).2.trans h2⟩

/-- A state that knows less. -/
theorem Inv.renamed (h : Inv C g β s a w) (hC : ∀ i j, C.E.s (.new i j) = none) {s1 : AS} {β1 : Id → Option Pl} (ρ : Ren) (hlen : s1.slots.length = s.slots.length) (hle : RenLe ρ (s.env w g β) (s1.env w g β1))
    (hslot : ∀ i, VS (s1.env w g β1) (s1.slot i) (a.tmps.getD i undef)) (hent : ∀ id ver fr c, s1.ent id = some (.obj ver fr c) → ∃ v0, s.ent id = some (.obj v0 fr c) ∧ c.ren ρ = c ∧ β1 id = β id)
    (hold : ∀ k, s1.ent (.old k) = s.ent (.old k) ∧ β1 (.old k) = β (.old k)) : Inv C g β1 s1 a w :=
  h.renamedTo hC ρ hlen (Trans.refl w g) hle hslot (fun id ver fr c hid => let ⟨v0, h1, h2, h3⟩ := hent id ver fr c hid; ⟨id, v0, h1, h2, h3, fun _ _ => ⟨fun _ h => h, fun h => h⟩⟩) hold

/-- Another word for what a slot holds. -/
theorem Inv.see (h : Inv C g β s a w) (j : Nat) {v : AVal} (hv : VS (s.env w g β) v (a.tmps.getD j undef)) : Inv C g β (s.put (some j) v) a w := by
  refine ⟨h.defers, by simpa [AS.put] using h.size, fun i => ?_, by simpa using h.objs, h.trans, by simpa using h.le⟩
  rw [env_put, slot_put]
  split
  · rename_i hij; rw [hij.1]; exact hv
  · exact h.slots i

theorem slot_keep (keep : List Nat) : ∀ (l : List AVal) (n i : Nat), (keepSlots keep n l).getD i .undef = .undef ∨ (keepSlots keep n l).getD i .undef = l.getD i .undef
  | [], n, i => by simp [keepSlots]
  | v :: l, n, 0 => by
    simp only [keepSlots, List.getD_cons_zero]
    split
    · exact .inr rfl
    · exact .inl rfl
  | v :: l, n, i + 1 => by
    simp only [keepSlots, List.getD_cons_succ]
    exact slot_keep keep l (n + 1) i

theorem len_keepSlots (keep : List Nat) : ∀ (l : List AVal) (n : Nat), (keepSlots keep n l).length = l.length
  | [], n => rfl
  | v :: l, n => by simp [keepSlots, len_keepSlots keep l]

theorem site_keep (keep : List Nat) : ∀ (l : List (List Ent)) (n i : Nat), (keepSites keep n l).getD i [] = [] ∨ (keepSites keep n l).getD i [] = l.getD i []
  | [], n, i => by simp [keepSites]
  | v :: l, n, 0 => by
    simp only [keepSites, List.getD_cons_zero]
    split
    · exact .inr rfl
    · exact .inl rfl
  | v :: l, n, i + 1 => by
    simp only [keepSites, List.getD_cons_succ]
    exact site_keep keep l (n + 1) i

theorem mem_slots {s : AS} (i : Nat) : s.slot i = .undef ∨ s.slot i ∈ s.slots := by
  unfold AS.slot
  rw [List.getD_eq_getElem?_getD]
  cases h : s.slots[i]? with
  | none => exact .inl rfl
  | some v => exact .inr (List.mem_of_getElem? h)

theorem ent_mem {s : AS} {id : Id} {e : Ent} (h : s.ent id = some e) : e ∈ s.olds ∨ ∃ es ∈ s.news, e ∈ es := by
  cases id with
  | old k => exact .inl (List.mem_of_getElem? h)
  | new i j =>
    simp only [AS.ent, List.getD_eq_getElem?_getD] at h
    cases hi : s.news[i]? with
    | none => rw [hi] at h; simp at h
    | some es => rw [hi] at h; exact .inr ⟨es, List.mem_of_getElem? hi, List.mem_of_getElem? h⟩

/-- Does all that is kept go to objects that are kept? -/
theorem Inv.keep (h : Inv C g β s a w) (hC : ∀ i j, C.E.s (.new i j) = none) {an : LoopAnn} (ht : (keepOnly an s).allThere = true) : Inv C g β (keepOnly an s) a w := by
  obtain ⟨ks, kt, _, _, _⟩ := an
  obtain ⟨s1, hs1⟩ : ∃ s1 : AS, s1 = { slots := keepSlots ks 0 s.slots, olds := s.olds, news := keepSites kt 0 s.news } := ⟨_, rfl⟩
  have e1 : s1.slots = keepSlots ks 0 s.slots := by rw [hs1]
  have e2 : s1.olds = s.olds := by rw [hs1]
  have e3 : s1.news = keepSites kt 0 s.news := by rw [hs1]
  have ht : (s1.slots.all (AVal.there s1) && s1.olds.all (Ent.there s1) && s1.news.all fun es => es.all (Ent.there s1)) = true := by rw [hs1]; exact ht
  show Inv C g β { slots := keepSlots ks 0 s.slots, olds := s.olds, news := keepSites kt 0 s.news } a w
  rw [← hs1]
  rw [Bool.and_eq_true, Bool.and_eq_true] at ht
  obtain ⟨⟨t1, t2⟩, t3⟩ := ht
  have hent : ∀ id, s1.ent id = none ∨ s1.ent id = s.ent id := fun id => by
    cases id with
    | old k => right; simp only [AS.ent, e2]
    | new i j =>
      simp only [AS.ent, e3]
      rcases site_keep kt s.news 0 i with h | h
      · rw [h]; exact .inl rfl
      · rw [h]; exact .inr rfl
  have hobj : ∀ id, (s1.obj id).isSome = true → s1.ent id = s.ent id := fun id hi => by
    rcases hent id with h | h
    · simp [AS.obj, h] at hi
    · exact h
  let ρ : Ren := fun id ver => if (s1.obj id).isSome = true then some (id, ver) else none
  have hρ : ∀ v : AVal, v.there s1 = true → v.ren ρ = v := fun v hv => ren_same v fun id hid ver => if_pos (there_ids v hv id hid)
  have hle : RenLe ρ (s.env w g β) (s1.env w g β) := by
    refine ⟨⟨fun _ _ _ h => h, fun _ _ h h' => ⟨h, h'⟩⟩, fun id ver r hr hb => ?_⟩
    by_cases hi : (s1.obj id).isSome = true
    · have : ρ id ver = some (id, ver) := if_pos hi
      rw [this, Option.some.injEq] at hr
      subst hr
      have e := hobj id hi
      obtain ⟨b1, b2⟩ := hb
      exact ⟨⟨by show s1.ent id ≠ none; rw [e]; exact b1, fun v fr c hh => b2 v fr c (e.symm.trans hh)⟩, fun ⟨fr, c, hc⟩ => ⟨⟨fr, c, e.symm.trans hc⟩, rfl⟩⟩
    · have : ρ id ver = none := if_neg hi
      rw [this] at hr; cases hr
  refine h.renamed hC ρ (by rw [e1, len_keepSlots]) hle (fun i => ?_) (fun id ver fr c hid => ?_) fun k => ⟨by simp only [AS.ent, e2], rfl⟩
  · rcases mem_slots (s := s1) i with hi | hi
    · rw [hi]; exact VS.undef
    · have hth := List.all_eq_true.1 t1 _ hi
      rcases slot_keep ks s.slots 0 i with h1 | h1
      · have : s1.slot i = .undef := by simp only [AS.slot, e1, h1]
        rw [this]; exact VS.undef
      · have : s1.slot i = s.slot i := by simp only [AS.slot, e1, h1]
        have hv := VS_ren hle (h.slots i)
        rw [← this, hρ _ hth] at hv
        exact hv
  · have : s1.ent id = s.ent id := by
      rcases hent id with h | h
      · rw [h] at hid; cases hid
      · exact h
    have hc : c.there s1 = true := by
      rcases ent_mem hid with h | ⟨es, h1, h2⟩
      · exact List.all_eq_true.1 t2 _ h
      · exact List.all_eq_true.1 (List.all_eq_true.1 t3 _ h1) _ h2
    exact ⟨ver, this.symm.trans hid, hρ c hc, rfl⟩

theorem Inv.drop (h : Inv C g β s a w) (ks : List Nat) : Inv C g β (s.drop ks) a w := by
  refine ⟨h.defers, by simpa [AS.drop, len_keepSlots] using h.size, fun i => ?_, h.objs, h.trans, h.le⟩
  rcases slot_keep ks s.slots 0 i with h1 | h1
  · have : (s.drop ks).slot i = .undef := h1
    rw [this]; exact VS.undef
  · have : (s.drop ks).slot i = s.slot i := h1
    rw [this]; exact h.slots i

theorem VS_rehead {E E' : Env} {v : AVal} {y : Value} {id : Id} {ver q : Nat} (hh : v.head = some (id, ver)) (hv : VS E v y) (hc : E.cur id ver) (hb : E'.bnd (.new q 0) 0) (hβ : E'.β (.new q 0) = E.β id) : VS E' (v.rehead q) y := by
  unfold AVal.head at hh
  split at hh
  · rename_i id' ver' len
    simp only [Option.some.injEq, Prod.mk.injEq] at hh
    obtain ⟨rfl, rfl⟩ := hh
    obtain ⟨a0, cap, hy, r1, r2, r3, r4⟩ := sref_of hv
    refine ⟨[.slice a0 len cap], ?_, ?_⟩
    · simp only [V, AVal.rehead]
      refine ⟨a0, cap, rfl, r1, r2, hb, fun _ => ?_⟩
      have r5 := r4 hc
      rw [hβ]
      cases hb : E.β id' with
      | none => rw [hb] at r5; exact r5
      | some pl => rw [hb] at r5; simpa using r5
    · rw [hy]; rfl
  · rename_i id' ver'
    simp only [Option.some.injEq, Prod.mk.injEq] at hh
    obtain ⟨rfl, rfl⟩ := hh
    obtain ⟨a0, hy, r3, r4⟩ := ptr_of hv
    refine ⟨[.pointer (some a0)], ?_, ?_⟩
    · simp only [V, AVal.rehead]
      refine ⟨a0, rfl, hb, fun _ => ?_⟩
      rw [hβ]
      exact r4 hc
    · rw [hy]; rfl
  · cases hh

def relabL (i i' : Id) : Lab → Lab
  | .own (.id x) k => if x = i then .own (.id i') k else .own (.id x) k
  | l => l
theorem Trans.relab (w : World) (g : Nat → Lab) (i i' : Id) : Trans w w g fun b => relabL i i' (g b) := by
  refine ⟨rfl, rfl, rfl, Nat.le_refl _, fun b _ => ?_⟩
  cases hg : g b with
  | free => exact ⟨by simp [relabL], rfl⟩
  | own o k => cases o with
    | foreign => exact ⟨by simp [relabL], rfl⟩
    | id x =>
      refine ⟨.inr ?_, fun _ _ _ h => h⟩
      simp only [relabL]
      split
      · exact ⟨_, _, rfl, Nat.le_refl _⟩
      · exact ⟨_, _, rfl, Nat.le_refl _⟩

theorem promote_sound (hC : ∀ i j, C.E.s (.new i j) = none) : ∀ (l : List (Nat × Nat × TypeId)) {s s1 : AS}, Sts C s a w → (promote P s l).eval = some s1 → Sts C s1 a w
  | [], s, s1, h, he => by
    simp only [promote] at he
    obtain rfl := eval_ok.1 he
    exact h
  | (j, q, T) :: l, s, s1, h, he => by
    obtain ⟨g, β, h⟩ := h
    simp only [promote] at he
    split at he
    · rename_i hj
      split at he
      · rename_i e t b hel hv
        refine promote_sound hC l ?_ he
        obtain ⟨β', h1, h2, h3⟩ := h.nilVec hv (e := e) (elemOfT_sound hel).2.1
        refine ⟨g, β', h1.see j ?_⟩
        have := h.slots j
        rw [hj] at this
        rw [nils_of this]
        exact h3
      · simp only [eval_fail] at he
    · rename_i v hnn
      split at he
      · rename_i id ver hhead
        split at he
        · rename_i v0 fr c hob
          split at he
          · rename_i hv
            have hv : v0 = ver := by simpa using hv
            subst hv
            have hent := obj_some hob
            have hvs := h.slots j
            split at he
            · rename_i hid
              have hid : id = .new q 0 := by simpa using hid
              subst hid
              split at he
              · rename_i hno
                refine promote_sound hC l ?_ he
                unfold AS.noRef at hno
                rw [Bool.and_eq_true, Bool.and_eq_true] at hno
                obtain ⟨⟨n1, n2⟩, n3⟩ := hno
                let s2 := s.setEnt (.new q 0) (.obj 0 fr c)
                have hself : s2.ent (.new q 0) = some (.obj 0 fr c) := ent_setEnt_self s _ _ (by rw [hent]; simp)
                have hoth : ∀ i, i ≠ .new q 0 → s2.ent i = s.ent i := fun i hi => ent_setEnt_other s _ i _ hi
                let ρ : Ren := fun id ver => if id = .new q 0 then none else some (id, ver)
                have hρ : ∀ u : AVal, u.noRef (.new q 0) = true → u.ren ρ = u := fun u hu => ren_same u fun id hid ver => if_neg (by rintro rfl; exact noRef_ids u hu hid)
                have hle : RenLe ρ (s.env w g β) (((s2.put (some j) ((s.slot j).rehead q)).env w g β)) := by
                  rw [env_put]
                  refine ⟨⟨fun _ _ _ h => h, fun _ _ h h' => ⟨h, h'⟩⟩, fun id ver r hr hb => ?_⟩
                  by_cases hi : id = .new q 0
                  · have : ρ id ver = none := if_pos hi
                    rw [this] at hr; cases hr
                  · have : ρ id ver = some (id, ver) := if_neg hi
                    rw [this, Option.some.injEq] at hr
                    subst hr
                    have e := hoth id hi
                    obtain ⟨b1, b2⟩ := hb
                    exact ⟨⟨by show s2.ent id ≠ none; rw [e]; exact b1, fun v fr c hh => b2 v fr c (e.symm.trans hh)⟩, fun ⟨fr, c, hc⟩ => ⟨⟨fr, c, e.symm.trans hc⟩, rfl⟩⟩
                have hcno : ∀ id e, s.ent id = some e → Ent.noRef (.new q 0) e = true := fun id e hid => by
                  rcases ent_mem hid with h | ⟨es, h1, h2⟩
                  · exact List.all_eq_true.1 n2 _ h
                  · exact List.all_eq_true.1 (List.all_eq_true.1 n3 _ h1) _ h2
                refine ⟨g, β, h.renamed hC ρ (by simp [AS.put]) hle (fun i => ?_) (fun id ver fr' c' hid => ?_) fun k => ⟨by rw [ent_put]; exact hoth _ (by simp), rfl⟩⟩
                · rw [slot_put]
                  split
                  · rename_i hij
                    rw [hij.1, env_put]
                    exact VS_rehead hhead hvs ⟨fr, c, hent⟩ ⟨by show s2.ent (.new q 0) ≠ none; rw [hself]; simp, fun _ _ _ _ => Nat.zero_le _⟩ rfl
                  · rename_i hij
                    have hsl : s2.slot i = s.slot i := by simp [AS.slot, s2]
                    show VS _ (s2.slot i) _
                    rw [hsl]
                    have hv := VS_ren hle (h.slots i)
                    rcases mem_slots (s := s.put (some j) .undef) i with hi | hi
                    · rw [slot_put] at hi
                      split at hi
                      · rename_i hij2
                        exact absurd ⟨hij2.1, by simpa [s2] using hij2.2⟩ hij
                      · rw [hi]; exact VS.undef
                    · have hn := List.all_eq_true.1 n1 _ hi
                      rw [slot_put] at hn
                      split at hn
                      · rename_i hij2
                        exact absurd ⟨hij2.1, by simpa [s2] using hij2.2⟩ hij
                      · rw [hρ _ hn] at hv; exact hv
                · rw [ent_put] at hid
                  by_cases hi : id = .new q 0
                  · subst hi
                    rw [hself] at hid
                    simp only [Option.some.injEq, Ent.obj.injEq] at hid
                    obtain ⟨_, rfl, rfl⟩ := hid
                    exact ⟨v0, hent, hρ _ (hcno _ _ hent), rfl⟩
                  · rw [hoth id hi] at hid
                    exact ⟨ver, hid, hρ _ (hcno _ _ hid), rfl⟩
              · simp only [eval_fail] at he
            · split at he
              · rename_i b _
                split at he
                · rename_i hmov
                  refine promote_sound hC l ?_ he
                  unfold AS.movable at hmov
                  simp only [Bool.and_eq_true, Bool.not_eq_true', decide_eq_false_iff_not, Bool.or_eq_true] at hmov
                  obtain ⟨⟨⟨⟨hbq, hno⟩, hno'⟩, hsb⟩, hsq⟩ := hmov
                  unfold AS.noRef at hno hno'
                  rw [Bool.and_eq_true, Bool.and_eq_true] at hno hno'
                  obtain ⟨⟨n1, n2⟩, n3⟩ := hno
                  obtain ⟨⟨m1, m2⟩, m3⟩ := hno'
                  have hql : q < s.news.length := by
                    rcases hsq with hsq | hsq
                    · unfold single at hsq
                      split at hsq
                      · rename_i x hx; exact (List.getElem?_eq_some_iff.1 hx).1
                      · cases hsq
                    · exact (virgin_ent hsq).2
                  let s2 := s.move q b (.obj 0 fr c)
                  have hself : ∀ j', s2.ent (.new q j') = [Ent.obj 0 fr c][j']? := fun j' => by
                    simp [s2, AS.move, AS.ent, List.getD_eq_getElem?_getD, hql]
                  have hgone : ∀ j', s2.ent (.new b j') = none := fun j' => by
                    have hbq' : ¬ q = b := fun e => hbq e.symm
                    simp only [s2, AS.move, AS.ent, List.getD_eq_getElem?_getD]
                    rw [List.getElem?_set_ne hbq', List.getElem?_set, if_pos rfl]
                    split <;> simp
                  have hoth : ∀ i, (∀ j', i ≠ .new q j') → (∀ j', i ≠ .new b j') → s2.ent i = s.ent i := fun i hi hi' => by
                    cases i with
                    | old k => rfl
                    | new x y =>
                      have h1 : ¬ q = x := fun e => hi y (by rw [e])
                      have h2 : ¬ b = x := fun e => hi' y (by rw [e])
                      simp only [s2, AS.move, AS.ent, List.getD_eq_getElem?_getD]
                      rw [List.getElem?_set_ne h1, List.getElem?_set_ne h2]
                  have hone : ∀ x, single s.news[x]? = true → ∀ j', s.ent (.new x (j' + 1)) = none := fun x hx j' => by
                    unfold single at hx
                    split at hx
                    · rename_i y hy; simp [AS.ent, List.getD_eq_getElem?_getD, hy]
                    · cases hx
                  have hq1 : ∀ j', s.ent (.new q (j' + 1)) = none := fun j' => by
                    rcases hsq with hsq | hsq
                    · exact hone q hsq j'
                    · exact (virgin_ent hsq).1 _
                  let ρ : Ren := fun id ver => if id = .new q 0 ∨ id = .new b 0 then none else some (id, ver)
                  have hρ : ∀ u : AVal, u.noRef (.new q 0) = true → u.noRef (.new b 0) = true → u.ren ρ = u := fun u hu hu' => ren_same u fun id hid ver => if_neg (by
                    rintro (rfl | rfl)
                    · exact noRef_ids u hu hid
                    · exact noRef_ids u hu' hid)
                  let g1 : Nat → Lab := fun x => relabL (.new b 0) (.new q 0) (g x)
                  let β1 : Id → Option Pl := fun i => if i = .new q 0 then β (.new b 0) else β i
                  have ht : Trans w w g g1 := Trans.relab w g _ _
                  have hle : RenLe ρ (s.env w g β) (((s2.put (some j) ((s.slot j).rehead q)).env w g1 β1)) := by
                    rw [env_put]
                    refine ⟨Trans.mem (E := s.env w g β) (E' := s2.env w g1 β1) ht, fun id ver r hr hb => ?_⟩
                    by_cases hi : id = .new q 0 ∨ id = .new b 0
                    · have : ρ id ver = none := if_pos hi
                      rw [this] at hr; cases hr
                    · have : ρ id ver = some (id, ver) := if_neg hi
                      rw [this, Option.some.injEq] at hr
                      subst hr
                      obtain ⟨b1, b2⟩ := hb
                      have hb1 : s.ent id ≠ none := b1
                      have e : s2.ent id = s.ent id := hoth id (fun j' e => by
                          cases j' with
                          | zero => exact hi (.inl e)
                          | succ j' => exact hb1 (by rw [e]; exact hq1 j')) (fun j' e => by
                          cases j' with
                          | zero => exact hi (.inr e)
                          | succ j' => exact hb1 (by rw [e]; exact hone b hsb j'))
                      exact ⟨⟨by show s2.ent id ≠ none; rw [e]; exact b1, fun v fr c hh => b2 v fr c (e.symm.trans hh)⟩, fun ⟨fr, c, hc⟩ => ⟨⟨fr, c, e.symm.trans hc⟩, if_neg fun e => hi (.inl e)⟩⟩
                  have hcno : ∀ id e, s.ent id = some e → Ent.noRef (.new b 0) e = true ∧ Ent.noRef (.new q 0) e = true := fun id e hid => by
                    rcases ent_mem hid with h | ⟨es, h1, h2⟩
                    · exact ⟨List.all_eq_true.1 n2 _ h, List.all_eq_true.1 m2 _ h⟩
                    · exact ⟨List.all_eq_true.1 (List.all_eq_true.1 n3 _ h1) _ h2, List.all_eq_true.1 (List.all_eq_true.1 m3 _ h1) _ h2⟩
                  refine ⟨g1, β1, h.renamedTo hC ρ (by simp [AS.put, AS.move]) ht hle (fun i => ?_) (fun id ver fr' c' hid => ?_) fun k => ⟨by rw [ent_put]; exact hoth _ (fun _ => by simp) (fun _ => by simp), if_neg (by simp)⟩⟩
                  · rw [slot_put]
                    split
                    · rename_i hij
                      rw [hij.1, env_put]
                      exact VS_rehead hhead hvs ⟨fr, c, hent⟩ ⟨by show s2.ent (.new q 0) ≠ none; rw [hself]; simp, fun _ _ _ _ => Nat.zero_le _⟩ (if_pos rfl)
                    · rename_i hij
                      have hsl : s2.slot i = s.slot i := rfl
                      show VS _ (s2.slot i) _
                      rw [hsl]
                      have hv := VS_ren hle (h.slots i)
                      rcases mem_slots (s := s.put (some j) .undef) i with hi | hi
                      · rw [slot_put] at hi
                        split at hi
                        · rename_i hij2
                          exact absurd ⟨hij2.1, hij2.2⟩ hij
                        · rw [hi]; exact VS.undef
                      · have hn := List.all_eq_true.1 n1 _ hi
                        have hm := List.all_eq_true.1 m1 _ hi
                        rw [slot_put] at hn hm
                        split at hn
                        · rename_i hij2
                          exact absurd ⟨hij2.1, hij2.2⟩ hij
                        · rename_i hij2
                          rw [if_neg hij2] at hm
                          rw [hρ _ hm hn] at hv; exact hv
                  · rw [ent_put] at hid
                    by_cases hi : ∃ j', id = .new q j'
                    · obtain ⟨j', rfl⟩ := hi
                      rw [hself] at hid
                      cases j' with
                      | zero =>
                        simp only [List.getElem?_cons_zero, Option.some.injEq, Ent.obj.injEq] at hid
                        obtain ⟨_, rfl, rfl⟩ := hid
                        obtain ⟨c1, c2⟩ := hcno _ _ hent
                        exact ⟨.new b 0, v0, hent, hρ _ c2 c1, if_pos rfl, fun pl hp => ⟨fun k hk => by simp [g1, hk, relabL], fun hk => by simp [g1, hk, relabL]⟩⟩
                      | succ j' => simp at hid
                    · by_cases hi' : ∃ j', id = .new b j'
                      · obtain ⟨j', rfl⟩ := hi'
                        rw [hgone] at hid; cases hid
                      · have e := hoth id (fun j' e => hi ⟨j', e⟩) (fun j' e => hi' ⟨j', e⟩)
                        rw [e] at hid
                        obtain ⟨c1, c2⟩ := hcno _ _ hid
                        have hne : id ≠ .new b 0 := fun e => hi' ⟨0, e⟩
                        exact ⟨id, ver, hid, hρ _ c2 c1, if_neg fun e => hi ⟨0, e⟩, fun pl hp => ⟨fun k hk => by simp [g1, hk, relabL, hne], fun hk => by simp [g1, hk, relabL]⟩⟩
                · simp only [eval_fail] at he
              · simp only [eval_fail] at he
          · simp only [eval_fail] at he
        · simp only [eval_fail] at he
      · simp only [eval_fail] at he

theorem trim_sound : ∀ (l : List Nat) {s s1 : AS}, Sts C s a w → (trimA s l).eval = some s1 → Sts C s1 a w
  | [], s, s1, h, he => by
    simp only [trimA] at he
    obtain rfl := eval_ok.1 he
    exact h
  | j :: l, s, s1, h, he => by
    obtain ⟨g, β, h⟩ := h
    simp only [trimA] at he
    split at he
    · rename_i id ver len hj
      split at he
      · rename_i v e t r hob
        split at he
        · obtain ⟨h1, h2⟩ := eval_chk.1 he
          have h1 : len ≤ r.length := by simpa using h1
          refine trim_sound l ?_ h2
          have hent := obj_some hob
          have hO : ObjR (s.env w g β) id false (.vec e t r) := h.objs id v false _ hent
          have ht := Trans.refl w g
          have hle : EnvLe (s.env w g β) ((s.setEnt id (.obj v false (.vec e t (r.take len)))).env w g β) := EnvLe.setEnt hent (Nat.le_refl _) ht (fun _ _ => rfl) (fun _ => rfl)
          refine ⟨g, β, h.step (slots_setEnt _ _ _) ht hle (Objs.setEnt h.objs (by rw [hent]; simp) hle (fun _ _ => rfl) (fun _ _ _ _ _ _ _ _ => ⟨rfl, rfl⟩) ?_)⟩
          obtain ⟨hz, hO⟩ := hO
          refine ⟨hz, ?_⟩
          have hO : (match β id with
            | none => r = []
            | some pl => ∃ cur k, w.heap[pl.b]? = some (.cells cur e (0, 0)) ∧ cur.size = pl.cap * t.size ∧ r.length ≤ pl.cap ∧ pl.cap ≤ maxLen ∧ g pl.b = .own (.id id) k ∧
                k ≤ r.length * t.size ∧ (false = false → k = 0) ∧ Chunks (Rep (s.env w g β) t) (cur.toList.take (r.length * t.size)) r) := hO
          show (match β id with
            | none => r.take len = []
            | some pl => _)
          cases hp : β id with
          | none => rw [hp] at hO; simp only at hO; subst hO; simp
          | some pl =>
            rw [hp] at hO
            obtain ⟨cur, k, q1, q2, q3, q4, q5, q6, q7, q8⟩ := hO
            have hk := q7 rfl
            subst hk
            have hlen : (r.take len).length = len := by simp; omega
            refine ⟨cur, 0, q1, q2, by omega, q4, q5, Nat.zero_le _, fun _ => rfl, ?_⟩
            have := Chunks.take (fun _ _ hx => Rep.size hx) len q8
            rw [List.take_take, Nat.min_eq_left (Nat.mul_le_mul_right _ h1)] at this
            rw [hlen]
            exact this.mono fun _ _ hx => hx.mono hle.mem
        · simp only [eval_fail] at he
      · simp only [eval_fail] at he
    · simp only [eval_fail] at he

theorem asData_sound : ∀ (l : List (Nat × Ty)) {s s1 : AS}, Sts C s a w → (asData s l).eval = some s1 → Sts C s1 a w
  | [], s, s1, h, he => by
    simp only [asData] at he
    obtain rfl := eval_ok.1 he
    exact h
  | (j, t) :: l, s, s1, h, he => by
    obtain ⟨g, β, h⟩ := h
    simp only [asData] at he
    obtain ⟨x, h1, h2⟩ := eval_bind.1 he
    obtain ⟨g', i1, _, _, cs, hR, hO⟩ := toTy_sound h (h.slots j) h1
    exact asData_sound l ⟨g', β, i1.see j (VS.of (a := .d t x) (cs := cs) (by simpa only [V] using hR) hO)⟩ h2

theorem norm_sound (hC : ∀ i j, C.E.s (.new i j) = none) {an : LoopAnn} {s1 : AS} (h : Sts C s a w) (he : (norm P an s).eval = some s1) : Sts C s1 a w := by
  unfold norm at he
  obtain ⟨s0, h1, h2⟩ := eval_bind.1 he
  obtain ⟨h3, h4⟩ := eval_guard.1 h2
  obtain ⟨g0, β0, h0⟩ := h
  obtain ⟨g1, i1, _⟩ := freezeAll_sound an.frz h0
  obtain ⟨g, β, h⟩ := asData_sound _ ⟨g1, β0, i1⟩ h1
  exact promote_sound hC _ ⟨g, β, h.keep hC h3⟩ h4

end
end Go.Ab
