/-
  Drawn regions, first part: states that agree, what an operation does to a state.
-/
import Derived.Test.YtdmpbapgnkdjpaaAb19
namespace Go.Ab

theorem AS.ext_of {s t : AS} (h1 : s.slots = t.slots) (h2 : s.news.length = t.news.length) (h3 : ∀ id, s.ent id = t.ent id) : s = t := by
  obtain ⟨a, b, c⟩ := s
  obtain ⟨a', b', c'⟩ := t
  simp only at h1 h2
  subst h1
  have hb : b = b' := List.ext_getElem? fun k => h3 (.old k)
  subst hb
  have hc : c = c' := by
    apply List.ext_getElem h2
    intro i h h'
    apply List.ext_getElem?
    intro j
    have := h3 (.new i j)
    simpa [AS.ent, List.getD_eq_getElem?_getD, h, h'] using this
  rw [hc]

/-! ### Entries that are the same but for the mark -/

def Ent.sim : Ent → Ent → Prop
  | .obj v _ c, .obj v' _ c' => v = v' ∧ c = c'
  | .dead, .dead => True
  | _, _ => False

def simO : Option Ent → Option Ent → Prop
  | some a, some b => a.sim b
  | none, none => True
  | _, _ => False

def Ent.frz : Ent → Ent
  | .obj v _ c => .obj v true c
  | .dead => .dead

theorem Ent.sim_refl (a : Ent) : a.sim a := by cases a <;> simp [Ent.sim]
theorem simO_refl (a : Option Ent) : simO a a := by cases a <;> simp [simO, Ent.sim_refl]
theorem simO_of {a b : Option Ent} (h : a = b) : simO a b := h ▸ simO_refl a
theorem Ent.sim_frz (a : Ent) : a.sim a.frz := by cases a <;> simp [Ent.sim, Ent.frz]
theorem simO_frz (a : Option Ent) : simO a (a.map Ent.frz) := by cases a <;> simp [simO, Ent.sim_frz]
theorem simO_frz' (a : Option Ent) : simO (a.map Ent.frz) a := by
  cases a with
  | none => trivial
  | some x => cases x <;> simp [simO, Ent.sim, Ent.frz]
theorem Ent.frz_frz (a : Ent) : a.frz.frz = a.frz := by cases a <;> rfl

structure Agree (f : Foot) (s t : AS) : Prop where
  slots : ∀ i ∈ f.slots, t.slot i = s.slot i
  ws : ∀ id ∈ f.ws, t.ent id = s.ent id
  rs : ∀ id ∈ f.rs, simO (t.ent id) (s.ent id)
  virgin : ∀ q, f.dst = some q → t.virgin q = s.virgin q

structure Eff where
  v : AVal
  up : Id → Option Ent
  fz : List Id

structure App (d : Option Tmp) (E : Eff) (s s' : AS) : Prop where
  slots : s'.slots = (s.put d E.v).slots
  len : s'.news.length = s.news.length
  ent : ∀ id, s'.ent id = match E.up id with | some e => some e | none => if id ∈ E.fz then (s.ent id).map Ent.frz else s.ent id

theorem App.det {d : Option Tmp} {E : Eff} {s s1 s2 : AS} (h1 : App d E s s1) (h2 : App d E s s2) : s1 = s2 :=
  AS.ext_of (by rw [h1.slots, h2.slots]) (by rw [h1.len, h2.len]) fun id => by rw [h1.ent, h2.ent]

structure Within (f : Foot) (s : AS) (E : Eff) : Prop where
  up : ∀ id e, E.up id = some e → (id ∈ f.ws ∧ s.ent id ≠ none) ∨ ∃ q j, f.dst = some q ∧ id = .new q j
  fz : ∀ id ∈ E.fz, id ∈ f.rs

/-! ### Freezing, by places -/

theorem len_setEnt (s : AS) (id : Id) (e : Ent) : (s.setEnt id e).news.length = s.news.length := by cases id <;> simp [AS.setEnt]

theorem ent_freeze_eq (s : AS) (id i : Id) : (s.freeze id).ent i = if i = id then (s.ent i).map Ent.frz else s.ent i := by
  unfold AS.freeze
  cases hs : s.ent id with
  | none => by_cases hi : i = id
            · subst hi; simp [hs]
            · simp [hi]
  | some e =>
    cases e with
    | dead => by_cases hi : i = id
              · subst hi; simp [hs, Ent.frz]
              · simp [hi]
    | obj v fr c =>
      simp only
      by_cases hi : i = id
      · subst hi
        rw [ent_setEnt_self s i _ (by rw [hs]; simp)]
        simp [hs, Ent.frz]
      · rw [ent_setEnt_other s id i _ hi]; simp [hi]

theorem ent_freezeAll_eq (i : Id) : ∀ (ids : List Id) (s : AS), (s.freezeAll ids).ent i = if i ∈ ids then (s.ent i).map Ent.frz else s.ent i
  | [], s => by simp [AS.freezeAll]
  | id :: ids, s => by
    rw [AS.freezeAll, ent_freezeAll_eq i ids, ent_freeze_eq]
    by_cases h1 : i = id
    · subst h1
      by_cases h2 : i ∈ ids
      · simp [h2, Option.map_map, Function.comp_def, Ent.frz_frz]
      · simp [h2]
    · simp [h1]

theorem len_freeze (s : AS) (id : Id) : (s.freeze id).news.length = s.news.length := by
  unfold AS.freeze
  split
  · exact len_setEnt _ _ _
  · rfl
theorem len_freezeAll : ∀ (ids : List Id) (s : AS), (s.freezeAll ids).news.length = s.news.length
  | [], _ => rfl
  | id :: ids, s => by rw [AS.freezeAll, len_freezeAll ids, len_freeze]

theorem virgin_iff {s : AS} {q : Nat} : s.virgin q = true ↔ q < s.news.length ∧ ∀ j, s.ent (.new q j) = none := by
  refine ⟨fun h => ⟨(virgin_ent h).2, (virgin_ent h).1⟩, fun ⟨h1, h2⟩ => ?_⟩
  unfold AS.virgin
  rw [List.getElem?_eq_getElem h1]
  have h0 := h2 0
  simp only [AS.ent, List.getD_eq_getElem?_getD, List.getElem?_eq_getElem h1, Option.getD_some] at h0
  cases hh : s.news[q] with
  | nil => rfl
  | cons x xs => rw [hh] at h0; simp at h0

theorem App.freezePut (d : Option Tmp) (v : AVal) (ids : List Id) (s : AS) : App d ⟨v, fun _ => none, ids⟩ s ((s.freezeAll ids).put d v) := by
  refine ⟨?_, ?_, fun id => ?_⟩
  · cases d <;> simp [AS.put, slots_freezeAll]
  · cases d <;> simp [AS.put, len_freezeAll]
  · rw [ent_put, ent_freezeAll_eq]

theorem App.justPut (d : Option Tmp) (v : AVal) (s : AS) : App d ⟨v, fun _ => none, []⟩ s (s.put d v) := App.freezePut d v [] s

def bornUp (q : Nat) (es : List Ent) : Id → Option Ent
  | .new i j => if i = q then es[j]? else none
  | .old _ => none

theorem ent_born (s : AS) {q : Nat} (hq : q < s.news.length) (es : List Ent) (id : Id) : (s.born q es).ent id = match id with | .new i j => if i = q then es[j]? else s.ent (.new i j) | .old k => s.ent (.old k) := by
  cases id with
  | old k => rfl
  | new i j =>
    simp only
    by_cases h : i = q
    · subst h; rw [if_pos rfl]; exact ent_born_new hq _ j
    · rw [if_neg h]; exact ent_born_other _ fun j' e => by simp only [Id.new.injEq] at e; exact h e.1

theorem App.bornPut {s : AS} {q : Nat} (hv : s.virgin q = true) (v : AVal) (ids : List Id) (es : List Ent) : App (some q) ⟨v, bornUp q es, ids⟩ s (((s.freezeAll ids).born q es).put (some q) v) := by
  obtain ⟨h1, h2⟩ := virgin_iff.1 hv
  refine ⟨?_, ?_, fun id => ?_⟩
  · simp [AS.put, slots_freezeAll]
  · simp [AS.put, AS.born, len_freezeAll]
  · rw [ent_put, ent_born _ (by rw [len_freezeAll]; exact h1)]
    cases id with
    | old k => simp only [bornUp]; exact ent_freezeAll_eq _ _ _
    | new i j =>
      simp only [bornUp]
      by_cases h : i = q
      · subst h
        rw [if_pos rfl]
        cases he : es[j]? with
        | none => simp [h2]
        | some e => simp
      · rw [if_neg h]
        simp only [if_neg h]
        exact ent_freezeAll_eq _ _ _

theorem App.setPut {s : AS} {id : Id} {e0 : Ent} (hs : s.ent id = some e0) (d : Option Tmp) (v : AVal) (e : Ent) : App d ⟨v, fun i => if i = id then some e else none, []⟩ s ((s.setEnt id e).put d v) := by
  refine ⟨?_, ?_, fun i => ?_⟩
  · cases d <;> simp [AS.put]
  · cases d <;> simp [AS.put, len_setEnt]
  · rw [ent_put]
    by_cases hi : i = id
    · subst hi
      rw [ent_setEnt_self s i _ (by rw [hs]; simp)]
      simp
    · rw [ent_setEnt_other s id i _ hi]; simp [hi]

/-! ### What hangs on what -/

section
variable {P : Program} {Γ : Gam} {objs : List Nat} {ops : Array Oper} {o : Oper} {s t : AS}

def LocA (P : Program) (Γ : Gam) (objs : List Nat) (ops : Array Oper) (o : Oper) (s s' : AS) : Prop :=
  ∃ E, App o.dst E s s' ∧ Within (foot Γ ops s o) s E ∧ ∀ t, Agree (foot Γ ops s o) s t → ∃ t', (aop P Γ objs o t).eval = some t' ∧ App o.dst E t t'

theorem mem_opSlots {xs : Array Operand} {i : Nat} (h : Operand.tmp i ∈ xs.toList) : i ∈ opSlots xs := by
  unfold opSlots
  exact List.mem_filterMap.2 ⟨_, h, rfl⟩

theorem Agree.ev (h : Agree (foot Γ ops s o) s t) {x : Operand} (hx : x ∈ o.op.operands.toList) : t.ev x = s.ev x := by
  cases x with
  | tmp i => exact h.slots i (List.mem_append.2 (.inl (mem_opSlots hx)))
  | _ => rfl

theorem ofConst_ids (v : Value) : (ofConst v).ids = [] := by unfold ofConst; split <;> rfl

theorem ids_in {x : Operand} (hx : x ∈ o.op.operands.toList) {id : Id} (hid : id ∈ (s.ev x).ids) : id ∈ (foot Γ ops s o).rs := by
  refine List.mem_append.2 (.inl ?_)
  unfold opIds
  cases x with
  | tmp i => exact List.mem_flatMap.2 ⟨i, mem_opSlots hx, hid⟩
  | const v => simp [AS.ev, ofConst_ids] at hid
  | global _ => simp [AS.ev, AVal.ids] at hid
  | func f => simp [AS.ev, AVal.ids] at hid

theorem Agree.sim (h : Agree (foot Γ ops s o) s t) {x : Operand} (hx : x ∈ o.op.operands.toList) {id : Id} (hid : id ∈ (s.ev x).ids) : simO (t.ent id) (s.ent id) :=
  h.rs id (ids_in hx hid)

theorem sim_obj {id : Id} (h : simO (t.ent id) (s.ent id)) : (t.obj id = none ∧ s.obj id = none) ∨ ∃ v f f' c, t.obj id = some (v, f, c) ∧ s.obj id = some (v, f', c) := by
  unfold AS.obj
  revert h
  cases t.ent id with
  | none => cases s.ent id with
    | none => intro _; simp
    | some b => intro h; exact h.elim
  | some a => cases s.ent id with
    | none => intro h; exact h.elim
    | some b => cases a <;> cases b <;> intro h <;> first
        | exact h.elim
        | (left; exact ⟨rfl, rfl⟩)
        | (obtain ⟨rfl, rfl⟩ := h; right; exact ⟨_, _, _, _, rfl, rfl⟩)

theorem row_congr {id : Id} (h : simO (t.ent id) (s.ent id)) (ver : Nat) (p : List Stp) : t.row id ver p = s.row id ver p := by
  unfold AS.row
  rcases sim_obj h with ⟨h1, h2⟩ | ⟨v, f, f', c, h1, h2⟩ <;> rw [h1, h2]

theorem toTy_congr : ∀ (v : AVal) (ty : Ty), (∀ id ∈ v.ids, simO (t.ent id) (s.ent id)) → t.toTy ty v = s.toTy ty v
  | .sref id ver p c i len, ty, h => by
    cases ty <;> first
      | rfl
      | (simp only [AS.toTy]; rw [row_congr (h id (by simp [AVal.ids]))])
  | .pr a b, ty, h => by
    cases ty <;> first
      | rfl
      | (simp only [AS.toTy]; rw [toTy_congr a _ fun id hid => h id (by simp [AVal.ids, hid]), toTy_congr b _ fun id hid => h id (by simp [AVal.ids, hid])])
  | .undef, ty, _ | .gone, ty, _ | .nils, ty, _ | .nilp, ty, _ | .nilf, ty, _ | .nilm, ty, _ | .d _ _, ty, _ | .ptr .., ty, _ | .rptr .., ty, _ | .fn .., ty, _ | .cons .., ty, _ | .nil, ty, _ | .vec .., ty, _ | .sb _, ty, _ => by
    cases ty <;> simp only [AS.toTy]

theorem shared_ids : ∀ (v : AVal), ∀ id ∈ v.shared, id ∈ v.ids
  | .sref .., id, h => by simpa [AVal.shared, AVal.ids] using h
  | .pr a b, id, h => by
    simp only [AVal.shared, List.mem_append, AVal.ids] at h ⊢
    rcases h with h | h
    · exact .inl (shared_ids a id h)
    · exact .inr (shared_ids b id h)
  | .undef, _, h | .gone, _, h | .nils, _, h | .nilp, _, h | .nilf, _, h | .nilm, _, h | .d _ _, _, h | .ptr .., _, h | .rptr .., _, h | .fn .., _, h | .cons .., _, h | .nil, _, h | .vec .., _, h | .sb _, _, h => by
    simp [AVal.shared] at h

theorem loadA_congr {T : TypeId} {x : AVal} (h : ∀ id ∈ x.ids, simO (t.ent id) (s.ent id)) : loadA P t T x = loadA P s T x := by
  unfold loadA
  split
  · rename_i id ver p n
    rcases sim_obj (h id (by simp [AVal.ids])) with ⟨h1, h2⟩ | ⟨v, f, f', c, h1, h2⟩ <;> rw [h1, h2]
  · rfl
  · rfl

theorem bounds_congr {n : Nat} {lo hi : Option Operand} (hl : ∀ x, lo = some x → t.ev x = s.ev x) (hh : ∀ x, hi = some x → t.ev x = s.ev x) : bounds t n lo hi = bounds s n lo hi := by
  unfold bounds
  cases lo <;> cases hi <;> simp only [] <;> first
    | rfl
    | (rw [hl _ rfl, hh _ rfl])
    | rw [hl _ rfl]
    | rw [hh _ rfl]

theorem sliceA_congr {T : TypeId} {x : AVal} {lo hi : Option Operand} (h : ∀ id ∈ x.ids, simO (t.ent id) (s.ent id)) (hl : ∀ x, lo = some x → t.ev x = s.ev x) (hh : ∀ x, hi = some x → t.ev x = s.ev x) :
    sliceA P t T x lo hi = sliceA P s T x lo hi := by
  have hb : ∀ n, bounds t n lo hi = bounds s n lo hi := fun n => bounds_congr hl hh
  unfold sliceA
  split <;> first
    | rfl
    | (rw [row_congr (h _ (by simp [AVal.ids]))]; simp only [hb]; done)
    | (simp only [hb]; done)

theorem indexAddrA_congr {T : TypeId} {x : AVal} {i : Int} (h : ∀ id ∈ x.ids, simO (t.ent id) (s.ent id)) : indexAddrA P t T x i = indexAddrA P s T x i := by
  unfold indexAddrA
  split <;> first
    | rfl
    | rw [row_congr (h _ (by simp [AVal.ids]))]

theorem convA_congr {obj : Bool} {src dst : TypeId} {x : AVal} (h : ∀ id ∈ x.ids, simO (t.ent id) (s.ent id)) : convA P t obj src dst x = convA P s obj src dst x := by
  unfold convA
  split
  · rfl
  · unfold convB
    split <;> first
      | rfl
      | (simp only [AS.peek, toTy_congr _ _ h])

theorem setParts_congr {ty : Ty} : ∀ (ps : List (Nat × Operand)) (l : List ty.den), (∀ x ∈ ps, t.ev x.2 = s.ev x.2 ∧ ∀ id ∈ (s.ev x.2).ids, simO (t.ent id) (s.ent id)) → setParts ty t ps l = setParts ty s ps l
  | [], _, _ => rfl
  | (i, x) :: ps, l, h => by
    obtain ⟨h1, h2⟩ := h (i, x) (List.mem_cons_self ..)
    simp only [setParts]
    simp only at h1 h2
    rw [h1, toTy_congr _ _ h2]
    congr 2
    funext y
    rw [setParts_congr ps _ fun z hz => h z (List.mem_cons_of_mem _ hz)]

theorem setParts_shared {ty : Ty} : ∀ (ps : List (Nat × Operand)) (l : List ty.den) (r : List ty.den × List Id), (setParts ty s ps l).eval = some r → ∀ id ∈ r.2, ∃ x ∈ ps, id ∈ (s.ev x.2).ids
  | [], l, r, h, id, hid => by
    obtain rfl := eval_ok.1 h
    cases hid
  | (i, x) :: ps, l, r, h, id, hid => by
    simp only [setParts] at h
    obtain ⟨h1, h2⟩ := eval_guard.1 h
    obtain ⟨y, h3, h4⟩ := eval_bind.1 h2
    obtain ⟨r', h5, h6⟩ := eval_bind.1 h4
    obtain rfl := eval_ok.1 h6
    rcases List.mem_append.1 hid with hid | hid
    · exact ⟨(i, x), List.mem_cons_self .., shared_ids _ _ hid⟩
    · obtain ⟨z, hz, hz2⟩ := setParts_shared ps _ r' h5 id hid
      exact ⟨z, List.mem_cons_of_mem _ hz, hz2⟩

theorem setFields_congr {fs : Array Field} : ∀ (ps : List (Nat × Operand)) (v : AVal), (∀ x ∈ ps, t.ev x.2 = s.ev x.2) → setFields P fs t ps v = setFields P fs s ps v
  | [], _, _ => rfl
  | (i, x) :: ps, v, h => by
    have h1 := h (i, x) (List.mem_cons_self ..)
    simp only at h1
    simp only [setFields, h1]
    have ih : ∀ v, setFields P fs t ps v = setFields P fs s ps v := fun v => setFields_congr ps v fun z hz => h z (List.mem_cons_of_mem _ hz)
    simp only [ih]

theorem capsOf_congr : ∀ (l : List Operand), (∀ x ∈ l, t.ev x = s.ev x) → capsOf t l = capsOf s l
  | [], _ => rfl
  | x :: l, h => by
    simp only [capsOf]
    rw [h x (List.mem_cons_self ..), capsOf_congr l fun y hy => h y (List.mem_cons_of_mem _ hy)]

theorem moreA_congr {ty : Ty} {X : TypeId} {x : AVal} (h : ∀ id ∈ x.ids, simO (t.ent id) (s.ent id)) : moreA P t ty X x = moreA P s ty X x := by
  unfold moreA
  split
  · rfl
  · simp only [AS.peek, toTy_congr _ _ h]

/-! ### Operations of the plain kind -/

theorem loc_put {v : AVal} (h : ∀ t, Agree (foot Γ ops s o) s t → (aop P Γ objs o t).eval = some (t.put o.dst v)) : LocA P Γ objs ops o s (s.put o.dst v) :=
  ⟨⟨v, fun _ => none, []⟩, App.justPut _ _ _, ⟨fun _ _ h => by simp at h, fun _ h => by simp at h⟩, fun t ht => ⟨_, h t ht, App.justPut _ _ _⟩⟩

theorem loc_out {F : AS → Out AVal} (ho : ∀ t, aop P Γ objs o t = (F t).bind fun v => .ok (t.put o.dst v)) (hF : ∀ t, Agree (foot Γ ops s o) s t → F t = F s) {s' : AS} (he : (aop P Γ objs o s).eval = some s') : LocA P Γ objs ops o s s' := by
  rw [ho] at he
  obtain ⟨v, h1, h2⟩ := eval_bind.1 he
  obtain rfl := eval_ok.1 h2
  refine loc_put fun t ht => ?_
  rw [ho, hF t ht, eval_bind]
  exact ⟨v, h1, rfl⟩

/-- What is frozen. -/
theorem loc_frz {v : AVal} {ids : List Id} (hi : ∀ id ∈ ids, id ∈ (foot Γ ops s o).rs) (h : ∀ t, Agree (foot Γ ops s o) s t → (aop P Γ objs o t).eval = some ((t.freezeAll ids).put o.dst v)) : LocA P Γ objs ops o s ((s.freezeAll ids).put o.dst v) :=
  ⟨⟨v, fun _ => none, ids⟩, App.freezePut _ _ _ _, ⟨fun _ _ h => by simp at h, hi⟩, fun t ht => ⟨_, h t ht, App.freezePut _ _ _ _⟩⟩

/-- What is new. -/
theorem loc_born {v : AVal} {ids : List Id} {q : Nat} {es : List Ent} (hd : o.dst = some q) (hv : s.virgin q = true) (hi : ∀ id ∈ ids, id ∈ (foot Γ ops s o).rs)
    (h : ∀ t, Agree (foot Γ ops s o) s t → t.virgin q = true → (aop P Γ objs o t).eval = some (((t.freezeAll ids).born q es).put o.dst v)) : LocA P Γ objs ops o s (((s.freezeAll ids).born q es).put o.dst v) := by
  refine ⟨⟨v, bornUp q es, ids⟩, by rw [hd]; exact App.bornPut hv _ _ _, ⟨fun id e h => .inr ?_, hi⟩, fun t ht => ?_⟩
  · cases id with
    | old _ => simp [bornUp] at h
    | new i j =>
      simp only [bornUp] at h
      split at h
      · rename_i hq; exact ⟨q, j, hd, by rw [hq]⟩
      · cases h
  · have hv' : t.virgin q = true := by rw [ht.virgin q hd]; exact hv
    exact ⟨_, h t ht hv', by rw [hd]; exact App.bornPut hv' _ _ _⟩

/-- What is changed. -/
theorem loc_set {v : AVal} {id : Id} {e0 e : Ent} (hs : s.ent id = some e0) (hw : id ∈ (foot Γ ops s o).ws) (h : ∀ t, Agree (foot Γ ops s o) s t → t.ent id = s.ent id → (aop P Γ objs o t).eval = some ((t.setEnt id e).put o.dst v)) :
    LocA P Γ objs ops o s ((s.setEnt id e).put o.dst v) := by
  refine ⟨⟨v, fun i => if i = id then some e else none, []⟩, App.setPut hs _ _ _, ⟨fun i e' h => .inl ?_, fun _ h => by simp at h⟩, fun t ht => ?_⟩
  · simp only at h
    split at h
    · rename_i hi; subst hi; exact ⟨hw, by rw [hs]; simp⟩
    · cases h
  · have := ht.ws id hw
    exact ⟨_, h t ht this, App.setPut (this.trans hs) _ _ _⟩

end
end Go.Ab
