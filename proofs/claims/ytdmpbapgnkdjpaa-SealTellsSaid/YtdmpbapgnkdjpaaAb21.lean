/-
  Drawn regions, second part: every operation hangs on its footprint alone.
-/
import Derived.Test.YtdmpbapgnkdjpaaAb20
namespace Go.Ab

section
variable {P : Program} {Γ : Gam} {objs : List Nat} {ops : Array Oper} {o : Oper} {s t : AS}

/-! ### Stores, appends -/

theorem storeA_local {T : TypeId} {x v : AVal} {s' : AS} (h : (storeA P s T x v).eval = some s') :
    ∃ id e0 e, x.ids = [id] ∧ s.ent id = some e0 ∧ s' = s.setEnt id e ∧ ∀ t : AS, t.ent id = s.ent id → (storeA P t T x v).eval = some (t.setEnt id e) := by
  unfold storeA at h
  split at h
  · rename_i id ver p n
    cases hob : s.obj id with
    | none => rw [hob] at h; simp only [eval_fail] at h
    | some r =>
      obtain ⟨ve, fr, c⟩ := r
      rw [hob] at h
      obtain ⟨h1, h2⟩ := eval_guard.1 h
      obtain ⟨r, h3, h4⟩ := eval_bind.1 h2
      obtain ⟨h5, h6⟩ := eval_guard.1 h4
      obtain ⟨h7, h8⟩ := eval_chk.1 h6
      obtain ⟨c', h9, h10⟩ := eval_bind.1 h8
      obtain rfl := eval_ok.1 h10
      refine ⟨id, _, _, rfl, obj_some hob, rfl, fun t ht => ?_⟩
      have hob' : t.obj id = some (ve, fr, c) := by simp only [AS.obj, ht]; exact hob
      unfold storeA
      simp only [hob']
      exact eval_guard.2 ⟨h1, eval_bind.2 ⟨r, h3, eval_guard.2 ⟨h5, eval_chk.2 ⟨h7, eval_bind.2 ⟨c', h9, eval_ok.2 rfl⟩⟩⟩⟩⟩
  · simp only [eval_fail] at h

theorem append_local {c : Call} {x y : Operand} {T X : TypeId} (hop : o.op = .call c) (hc : c.callee = .builtin .append) (ha : c.args.toList = [x, y]) (ht : c.argTypes.toList = [T, X]) {s' : AS}
    (he : (appendA P s o.dst T X (s.ev x) (s.ev y)).eval = some s') : LocA P Γ objs ops o s s' := by
  have hao : ∀ t, aop P Γ objs o t = appendA P t o.dst T X (t.ev x) (t.ev y) := fun t => by
    unfold aop
    rw [hop]
    simp only [hc, ha, ht]
  have hmem : ∀ z, z = x ∨ z = y → z ∈ o.op.operands.toList := fun z hz => by
    rw [hop]
    simp only [Op.operands, Call.operands, hc, List.nil_append, Array.toList_append, ha]
    simpa using hz
  have hx : ∀ t, Agree (foot Γ ops s o) s t → t.ev x = s.ev x := fun t h => h.ev (hmem x (.inl rfl))
  have hy : ∀ t, Agree (foot Γ ops s o) s t → t.ev y = s.ev y := fun t h => h.ev (hmem y (.inr rfl))
  have hm : ∀ t, Agree (foot Γ ops s o) s t → ∀ ty, moreA P t ty X (s.ev y) = moreA P s ty X (s.ev y) := fun t h ty => moreA_congr fun id hid => h.sim (hmem y (.inr rfl)) hid
  unfold appendA at he
  split at he
  · rename_i e ty b q hel hd
    obtain ⟨m, h1, h2⟩ := eval_bind.1 he
    split at h2
    · rename_i hnx
      obtain ⟨h3, h4⟩ := eval_guard.1 h2
      obtain ⟨h5, h6⟩ := eval_chk.1 h4
      obtain rfl := eval_ok.1 h6
      refine loc_born (ids := []) hd h3 (fun _ h => by cases h) fun t ht hv => ?_
      rw [hao, hx t ht, hy t ht]
      unfold appendA
      simp only [hel, hd, hnx]
      refine eval_bind.2 ⟨m, by rw [hm t ht]; exact h1, ?_⟩
      exact eval_guard.2 ⟨hv, eval_chk.2 ⟨h5, eval_ok.2 rfl⟩⟩
    · rename_i id ver len hnx
      split at h2
      · rename_i v fr e' t' l hob
        obtain ⟨h3, h4⟩ := eval_guard.1 h2
        obtain ⟨l', h5, h6⟩ := eval_bind.1 h4
        obtain ⟨h7, h8⟩ := eval_chk.1 h6
        obtain ⟨h9, h10⟩ := eval_chk.1 h8
        obtain ⟨h11, h12⟩ := eval_chk.1 h10
        obtain rfl := eval_ok.1 h12
        have hw : id ∈ (foot Γ ops s o).ws := by
          show id ∈ writes Γ s o
          unfold writes
          rw [hop]
          simp only [hc, ha, hnx]
          simp [AVal.ids]
        refine loc_set (obj_some hob) hw fun t ht hte => ?_
        rw [hao, hx t ht, hy t ht]
        have hob' : t.obj id = some (v, fr, .vec e' t' l) := by simp only [AS.obj, hte]; exact hob
        unfold appendA
        simp only [hel, hd, hnx]
        refine eval_bind.2 ⟨m, by rw [hm t ht]; exact h1, ?_⟩
        simp only [hob']
        exact eval_guard.2 ⟨h3, eval_bind.2 ⟨l', h5, eval_chk.2 ⟨h7, eval_chk.2 ⟨h9, eval_chk.2 ⟨h11, eval_ok.2 rfl⟩⟩⟩⟩⟩
      · simp only [eval_fail] at h2
    · simp only [eval_fail] at h2
  · simp only [eval_fail] at he

/-! ### Calls -/

theorem reach_sub : ∀ (n : Nat) (todo acc : List Id), ∀ id ∈ acc, id ∈ s.reach n todo acc
  | 0, _, _, id, h => h
  | _ + 1, [], _, id, h => h
  | n + 1, x :: todo, acc, id, h => by
    rw [AS.reach]
    split
    · exact reach_sub n todo acc id h
    · exact reach_sub n _ _ id (List.mem_append.2 (.inl h))

theorem reach_congr : ∀ (n : Nat) (todo acc : List Id), (∀ id ∈ s.reach n todo acc, ((t.ent id).getD .dead).ids = ((s.ent id).getD .dead).ids) → t.reach n todo acc = s.reach n todo acc
  | 0, _, _, _ => rfl
  | _ + 1, [], _, _ => rfl
  | n + 1, x :: todo, acc, h => by
    rw [AS.reach] at h
    rw [AS.reach, AS.reach]
    split
    · rename_i hc
      rw [if_pos hc] at h
      exact reach_congr n todo acc h
    · rename_i hc
      rw [if_neg hc] at h
      have hx := h x (reach_sub n _ _ x (List.mem_append.2 (.inr (List.mem_singleton.2 rfl))))
      rw [hx]
      exact reach_congr n _ _ h

theorem ids_frz (e : Option Ent) : ((e.map Ent.frz).getD .dead).ids = (e.getD .dead).ids := by
  cases e with
  | none => rfl
  | some x => cases x <;> rfl

theorem reach_freezeAll (ids : List Id) (n : Nat) (todo acc : List Id) : (s.freezeAll ids).reach n todo acc = s.reach n todo acc := by
  refine reach_congr n todo acc fun id _ => ?_
  rw [ent_freezeAll_eq]
  split
  · exact ids_frz _
  · rfl

theorem conv_congr : ∀ (ps : List (Option Ty)) (vs : List AVal), (∀ v ∈ vs, ∀ id ∈ v.ids, simO (t.ent id) (s.ent id)) → t.conv ps vs = s.conv ps vs
  | [], [], _ => rfl
  | [], _ :: _, _ => rfl
  | some _ :: _, [], _ => rfl
  | none :: _, [], _ => rfl
  | some ty :: ps, v :: vs, h => by
    simp only [AS.conv]
    rw [toTy_congr v ty (h v (List.mem_cons_self ..)), conv_congr ps vs fun x hx => h x (List.mem_cons_of_mem _ hx)]
  | none :: ps, v :: vs, h => by
    simp only [AS.conv]
    rw [conv_congr ps vs fun x hx => h x (List.mem_cons_of_mem _ hx)]

theorem conv_parts : ∀ (ps : List (Option Ty)) (vs : List AVal) (r : List AVal × List Id), (s.conv ps vs).eval = some r → r.1.flatMap AVal.ids = lendIds ps vs ∧ ∀ id ∈ r.2, ∃ v ∈ vs, id ∈ v.ids
  | [], [], r, h => by
    simp only [AS.conv, eval_ok] at h
    subst h
    exact ⟨rfl, fun _ h => by cases h⟩
  | some ty :: ps, v :: vs, r, h => by
    simp only [AS.conv] at h
    obtain ⟨x, h1, h2⟩ := eval_bind.1 h
    obtain ⟨r', h3, h4⟩ := eval_bind.1 h2
    obtain rfl := eval_ok.1 h4
    obtain ⟨i1, i2⟩ := conv_parts ps vs r' h3
    refine ⟨by simp [lendIds, i1, AVal.ids], fun id hid => ?_⟩
    rcases List.mem_append.1 hid with hid | hid
    · exact ⟨v, List.mem_cons_self .., shared_ids v id hid⟩
    · obtain ⟨u, hu, hu2⟩ := i2 id hid
      exact ⟨u, List.mem_cons_of_mem _ hu, hu2⟩
  | none :: ps, v :: vs, r, h => by
    simp only [AS.conv] at h
    obtain ⟨r', h3, h4⟩ := eval_bind.1 h
    obtain rfl := eval_ok.1 h4
    obtain ⟨i1, i2⟩ := conv_parts ps vs r' h3
    refine ⟨by simp [lendIds, i1], fun id hid => ?_⟩
    obtain ⟨u, hu, hu2⟩ := i2 id hid
    exact ⟨u, List.mem_cons_of_mem _ hu, hu2⟩
  | [], _ :: _, _, h => by simp only [AS.conv, eval_fail] at h
  | some _ :: _, [], _, h => by simp only [AS.conv, eval_fail] at h
  | none :: _, [], _, h => by simp only [AS.conv, eval_fail] at h

theorem list_ids : ∀ (c : AVal), ∀ v ∈ c.list, ∀ id ∈ v.ids, id ∈ c.ids
  | .cons a b, v, hv, id, hid => by
    simp only [AVal.list, List.mem_cons] at hv
    simp only [AVal.ids, List.mem_append]
    rcases hv with rfl | hv
    · exact .inl hid
    · exact .inr (list_ids b v hv id hid)
  | .sb _, _, h, _, _ | .undef, _, h, _, _ | .gone, _, h, _, _ | .nils, _, h, _, _ | .nilp, _, h, _, _ | .nilf, _, h, _, _ | .nilm, _, h, _, _ | .d _ _, _, h, _, _ | .ptr .., _, h, _, _ | .rptr .., _, h, _, _
  | .fn .., _, h, _, _ | .pr .., _, h, _, _ | .nil, _, h, _, _ | .vec .., _, h, _, _ | .sref .., _, h, _, _ => by simp [AVal.list] at h

theorem refIn_congr {ids : List Id} (h : ∀ id ∈ ids, t.ent id = s.ent id) : t.refIn ids = s.refIn ids := by
  funext id ver
  unfold AS.refIn
  cases hi : idxOf id ids with
  | none => rfl
  | some k =>
    have : t.obj id = s.obj id := by simp only [AS.obj, h id (List.mem_of_getElem? (idxOf_some hi))]
    rw [this]

theorem verOf_congr {id : Id} (h : t.ent id = s.ent id) : t.verOf id = s.verOf id := by simp only [AS.verOf, AS.obj, h]

theorem refOut_congr {ids : List Id} (h : ∀ id ∈ ids, t.ent id = s.ent id) (q : Nat) : t.refOut ids q = s.refOut ids q := by
  funext id ver
  cases id with
  | new i j => rfl
  | old k =>
    simp only [AS.refOut]
    cases hk : ids[k]? with
    | none => rfl
    | some id => simp only [verOf_congr (h id (List.mem_of_getElem? hk))]

theorem entOut_congr {ids : List Id} (h : ∀ id ∈ ids, t.ent id = s.ent id) (q b : Nat) : t.entOut ids q b = s.entOut ids q b := by
  funext e
  cases e <;> simp only [AS.entOut, refOut_congr h]

theorem entIn_congr {ids : List Id} (h : ∀ id ∈ ids, t.ent id = s.ent id) {id : Id} (hid : id ∈ ids) : t.entIn ids id = s.entIn ids id := by
  unfold AS.entIn
  rw [h id hid, refIn_congr h]

def backSt (s : AS) (ids : List Id) (d : Option Tmp) (G : GRes) : AS :=
  (AS.setEnts s ids (d.getD 0) (s.made ids (d.getD 0) G.news) ids G.olds).put d (G.val.ren (s.refOut ids (d.getD 0)))

theorem back_some {ids : List Id} {d : Option Tmp} {G : GRes} {s' : AS} : (s.back ids d G).eval = some s' ↔ (G.olds.length = ids.length ∧ (G.news = [] ∨ ∃ q, d = some q ∧ s.virgin q = true)) ∧ s' = backSt s ids d G := by
  unfold AS.back
  cases d with
  | none =>
    rw [eval_guard, eval_ok]
    simp only [Bool.and_eq_true, beq_iff_eq, List.isEmpty_iff, backSt, AS.put, Option.getD_none]
    constructor
    · rintro ⟨⟨h1, h2⟩, rfl⟩
      rw [h2]; exact ⟨⟨h1, .inl rfl⟩, rfl⟩
    · rintro ⟨⟨h1, h2⟩, rfl⟩
      rcases h2 with h2 | ⟨q, hq, _⟩
      · rw [h2]; exact ⟨⟨h1, rfl⟩, rfl⟩
      · cases hq
  | some q =>
    rw [eval_guard, eval_ok]
    simp only [Bool.and_eq_true, beq_iff_eq, Bool.or_eq_true, List.isEmpty_iff, backSt, Option.getD_some]
    constructor
    · rintro ⟨⟨h1, h2⟩, rfl⟩
      exact ⟨⟨h1, h2.imp id fun h => ⟨q, rfl, h⟩⟩, rfl⟩
    · rintro ⟨⟨h1, h2⟩, rfl⟩
      refine ⟨⟨h1, h2.imp id fun ⟨q', hq, h⟩ => ?_⟩, rfl⟩
      obtain rfl : q = q' := by simpa using hq
      exact h

theorem len_setEnts (s0 : AS) (all : List Id) (q : Nat) : ∀ (ids : List Id) (es : List Ent) (s : AS), (AS.setEnts s0 all q s ids es).news.length = s.news.length
  | [], _, _ => by simp [AS.setEnts]
  | _ :: _, [], _ => by simp [AS.setEnts]
  | id :: ids, e :: es, s => by rw [AS.setEnts, len_setEnts s0 all q ids es, len_setEnt]

theorem len_made (s : AS) (ids : List Id) (q : Nat) (es : List Ent) : (s.made ids q es).news.length = s.news.length := by
  cases es <;> simp [AS.made, AS.born]

/-- The ids that a call sets. -/
def touched (ids : List Id) (d : Option Tmp) (G : GRes) (id : Id) : Prop := id ∈ ids ∨ (G.news ≠ [] ∧ ∃ q j, d = some q ∧ id = .new q j)

theorem backSt_ent {ids : List Id} {d : Option Tmp} {G : GRes} (hn : ids.Nodup) (hp : ∀ id ∈ ids, s.ent id ≠ none) (hl : G.olds.length = ids.length) (hv : G.news = [] ∨ ∃ q, d = some q ∧ s.virgin q = true) :
    (∀ id, ¬ touched ids d G id → (backSt s ids d G).ent id = s.ent id) ∧
    (∀ (k : Nat) (id : Id) (e : Ent), ids[k]? = some id → G.olds[k]? = some e → (backSt s ids d G).ent id = some (s.entOut ids (d.getD 0) (s.verOf id) e)) ∧
    (∀ q j, G.news ≠ [] → d = some q → (backSt s ids d G).ent (.new q j) = (G.news[j]?).map (s.entOut ids q 0)) ∧
    (∀ q j, G.news ≠ [] → d = some q → s.ent (.new q j) = none) := by
  have hv' : G.news = [] ∨ s.virgin (d.getD 0) = true := by
    rcases hv with h | ⟨q, rfl, h⟩
    · exact .inl h
    · exact .inr h
  obtain ⟨m1, m2⟩ := ent_made s ids (d.getD 0) G.news hv'
  have hnone : ∀ q j, G.news ≠ [] → d = some q → s.ent (.new q j) = none := fun q j h1 h2 => by
    rcases hv' with h | h
    · exact absurd h h1
    · subst h2; exact (virgin_iff.1 h).2 j
  have hnew : ∀ id, s.ent id ≠ none → G.news = [] ∨ ∀ j, id ≠ .new (d.getD 0) j := fun id hid => by
    rcases hv with h | ⟨q, rfl, h⟩
    · exact .inl h
    · exact .inr fun j e => hid (by rw [e]; exact (virgin_iff.1 h).2 j)
  obtain ⟨n1, n2⟩ := ent_setEnts s ids (d.getD 0) ids G.olds (s.made ids (d.getD 0) G.news) hn hl (fun id hid => by rw [m1 id (hnew id (hp id hid))]; exact hp id hid)
  refine ⟨fun id hid => ?_, fun k id e h1 h2 => ?_, fun q j h1 h2 => ?_, hnone⟩
  · unfold touched at hid
    simp only [not_or] at hid
    rw [backSt, ent_put, n1 id hid.1]
    refine m1 id ?_
    by_cases hne : G.news = []
    · exact .inl hne
    · right
      intro j e
      rcases hv with h | ⟨q, hq, _⟩
      · exact hne h
      · exact hid.2 ⟨hne, q, j, hq, by rw [e, hq]; rfl⟩
  · rw [backSt, ent_put, n2 k id e h1 h2]
  · subst h2
    have hnot : Id.new q j ∉ ids := fun hid => hp _ hid (hnone q j h1 rfl)
    rw [backSt, ent_put, n1 _ hnot]
    exact m2 h1 j

open Classical in
theorem call_local {c : Call} {F : Operand} {f : FuncId} {caps : AVal} {en : Entry} (hop : o.op = .call c) (hc : c.callee = .value F) (hF : s.ev F = .fn f caps) (hΓ : Γ f (c.args.toList.map s.ev ++ caps.list) = some en) {s' : AS}
    (he : (s.call en o.dst (c.args.toList.map s.ev ++ caps.list)).eval = some s') : LocA P Γ objs ops o s s' := by
  have hmem : ∀ z, z = F ∨ z ∈ c.args.toList → z ∈ o.op.operands.toList := fun z hz => by
    rw [hop]
    simp only [Op.operands, Call.operands, hc, Array.toList_append, List.mem_append]
    rcases hz with rfl | hz
    · exact .inl (by simp)
    · exact .inr hz
  -- what the values hang on
  have hvids : ∀ v ∈ c.args.toList.map s.ev ++ caps.list, ∀ id ∈ v.ids, id ∈ (foot Γ ops s o).rs := fun v hv id hid => by
    rcases List.mem_append.1 hv with hv | hv
    · obtain ⟨x, hx, rfl⟩ := List.mem_map.1 hv
      exact ids_in (hmem x (.inr hx)) hid
    · refine ids_in (hmem F (.inl rfl)) ?_
      rw [hF]
      exact list_ids caps v hv id hid
  generalize hvs : c.args.toList.map s.ev ++ caps.list = vs at he hvids hΓ
  have hws : (foot Γ ops s o).ws = s.reach 64 (lendIds en.params vs) [] := by
    show writes Γ s o = _
    unfold writes
    rw [hop]
    simp only [hc, hF, hvs, hΓ]
  have hao : ∀ t, Agree (foot Γ ops s o) s t → aop P Γ objs o t = t.call en o.dst vs := fun t ht => by
    unfold aop
    rw [hop]
    have h1 : t.ev F = .fn f caps := by rw [ht.ev (hmem F (.inl rfl)), hF]
    have h2 : c.args.toList.map t.ev = c.args.toList.map s.ev := List.map_congr_left fun x hx => ht.ev (hmem x (.inr hx))
    obtain ⟨cal, args, tys⟩ := c
    simp only at hc hvs h2
    subst hc
    simp only [h1, h2, hvs, hΓ]
  unfold AS.call at he
  obtain ⟨r, h1, h2⟩ := eval_bind.1 he
  obtain ⟨hr1, hr2⟩ := conv_parts _ _ r h1
  have hlends : ∀ t : AS, (t.freezeAll r.2).lends r.1 = t.reach 64 (lendIds en.params vs) [] := fun t => by
    unfold AS.lends
    rw [reach_freezeAll, hr1]
  rw [hlends] at h2
  generalize hW : s.reach 64 (lendIds en.params vs) [] = W at h2 hws
  have hWn : W.Nodup := by rw [← hW]; exact reach_nodup s _ _ _ (by simp)
  unfold AS.enter at h2
  obtain ⟨hall, h3⟩ := eval_guard.1 h2
  obtain ⟨x, hx, h4⟩ := eval_get.1 h3
  obtain ⟨⟨hl, hv⟩, rfl⟩ := back_some.1 h4
  generalize hG : en.out x = G at hl hv h4 ⊢
  have hp : ∀ id ∈ W, (s.freezeAll r.2).ent id ≠ none := fun id hid => by
    have := List.all_eq_true.1 hall id hid
    obtain ⟨⟨v, fr, c⟩, hr⟩ := Option.isSome_iff_exists.1 this
    rw [obj_some hr]; simp
  obtain ⟨b1, b2, b3, b4⟩ := backSt_ent (s := s.freezeAll r.2) (d := o.dst) hWn hp hl hv
  have hfzent : ∀ (u : AS) id, u.ent id = none ↔ (u.freezeAll r.2).ent id = none := fun u id => by
    rw [ent_freezeAll_eq]; split <;> simp
  let E : Eff := ⟨G.val.ren ((s.freezeAll r.2).refOut W (o.dst.getD 0)), fun id => if touched W o.dst G id then (backSt (s.freezeAll r.2) W o.dst G).ent id else none, r.2⟩
  have hslots : ∀ u : AS, (backSt (u.freezeAll r.2) W o.dst G).slots = (u.put o.dst (G.val.ren ((u.freezeAll r.2).refOut W (o.dst.getD 0)))).slots := fun u => by
    unfold backSt
    cases o.dst <;> simp [AS.put, slots_setEnts, slots_made, slots_freezeAll]
  have hlen : ∀ u : AS, (backSt (u.freezeAll r.2) W o.dst G).news.length = u.news.length := fun u => by
    unfold backSt
    cases o.dst <;> simp [AS.put, len_setEnts, len_made, len_freezeAll]
  refine ⟨E, ⟨hslots s, hlen s, fun id => ?_⟩, ⟨fun id e hup => ?_, fun id hid => ?_⟩, fun t ht => ?_⟩
  · by_cases hto : touched W o.dst G id
    · have hup : E.up id = (backSt (s.freezeAll r.2) W o.dst G).ent id := if_pos hto
      rw [hup]
      cases hb : (backSt (s.freezeAll r.2) W o.dst G).ent id with
      | some e => rfl
      | none =>
        rcases hto with hid | ⟨hne, q, j, hq, rfl⟩
        · obtain ⟨k, hk⟩ := List.mem_iff_getElem?.1 hid
          have hlt : k < G.olds.length := by rw [hl]; exact (List.getElem?_eq_some_iff.1 hk).1
          rw [b2 k id _ hk (List.getElem?_eq_getElem hlt)] at hb
          cases hb
        · have := (hfzent s _).2 (b4 q j hne hq)
          simp [this]
    · have hup : E.up id = none := if_neg hto
      rw [hup, b1 id hto, ent_freezeAll_eq]
  · by_cases hto : touched W o.dst G id
    · rcases hto with hid | ⟨_, q, j, hq, rfl⟩
      · left
        refine ⟨by rw [hws]; exact hid, fun h => hp id hid ((hfzent s id).1 h)⟩
      · exact .inr ⟨q, j, hq, rfl⟩
    · have : E.up id = none := if_neg hto
      rw [this] at hup; cases hup
  · obtain ⟨v, hv, hid⟩ := hr2 id hid
    exact hvids v hv id hid
  · have hco : t.conv en.params vs = s.conv en.params vs := conv_congr _ _ fun v hv id hid => ht.rs id (hvids v hv id hid)
    have hag : ∀ id ∈ W, t.ent id = s.ent id := fun id hid => ht.ws id (by rw [hws]; exact hid)
    have hagf : ∀ id ∈ W, (t.freezeAll r.2).ent id = (s.freezeAll r.2).ent id := fun id hid => by
      rw [ent_freezeAll_eq, ent_freezeAll_eq, hag id hid]
    have hWt : t.reach 64 (lendIds en.params vs) [] = W := by
      rw [← hW]
      refine reach_congr _ _ _ fun id hid => ?_
      rw [hag id (by rw [← hW]; exact hid)]
    have hvt : G.news = [] ∨ ∃ q, o.dst = some q ∧ (t.freezeAll r.2).virgin q = true := hv.imp id fun ⟨q, hq, h⟩ => ⟨q, hq, by
      rw [virgin_freezeAll] at h ⊢
      rw [ht.virgin q hq]; exact h⟩
    have hpt : ∀ id ∈ W, (t.freezeAll r.2).ent id ≠ none := fun id hid => by rw [hagf id hid]; exact hp id hid
    obtain ⟨d1, d2, d3, d4⟩ := backSt_ent (s := t.freezeAll r.2) (d := o.dst) hWn hpt hl hvt
    refine ⟨backSt (t.freezeAll r.2) W o.dst G, ?_, ⟨?_, hlen t, fun id => ?_⟩⟩
    · rw [hao t ht]
      unfold AS.call
      rw [hco]
      refine eval_bind.2 ⟨r, h1, ?_⟩
      rw [hlends, hWt]
      unfold AS.enter
      refine eval_guard.2 ⟨?_, eval_get.2 ⟨x, ?_, ?_⟩⟩
      · refine List.all_eq_true.2 fun id hid => ?_
        have := List.all_eq_true.1 hall id hid
        simp only [AS.obj] at this ⊢
        rw [hagf id hid]
        exact this
      · rw [refIn_congr hagf, ← hx]
        congr 1
        exact List.map_congr_left fun id hid => entIn_congr hagf hid
      · rw [hG]
        exact back_some.2 ⟨⟨hl, hvt⟩, rfl⟩
    · rw [hslots t, refOut_congr hagf]
    · by_cases hto : touched W o.dst G id
      · have hup : E.up id = (backSt (s.freezeAll r.2) W o.dst G).ent id := if_pos hto
        rw [hup]
        rcases hto with hid | ⟨hne, q, j, hq, rfl⟩
        · obtain ⟨k, hk⟩ := List.mem_iff_getElem?.1 hid
          have hlt : k < G.olds.length := by rw [hl]; exact (List.getElem?_eq_some_iff.1 hk).1
          rw [b2 k id _ hk (List.getElem?_eq_getElem hlt), d2 k id _ hk (List.getElem?_eq_getElem hlt), entOut_congr hagf, verOf_congr (hagf id hid)]
        · rw [b3 q j hne hq, d3 q j hne hq, entOut_congr hagf]
          cases hn : G.news[j]? with
          | some e => rfl
          | none =>
            have := (hfzent t _).2 (d4 q j hne hq)
            simp [this]
      · have hup : E.up id = none := if_neg hto
        rw [hup, d1 id hto, ent_freezeAll_eq]

end
end Go.Ab
