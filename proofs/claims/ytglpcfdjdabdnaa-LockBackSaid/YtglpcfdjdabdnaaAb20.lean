/-
  The abstract machine, a part.
-/
import Derived.Test.YtglpcfdjdabdnaaAb18

/-
  Drawn regions, first part: states that agree, what an operation does to a state.
-/
namespace Go.Ab

theorem AS.ext_of {s t : AS} (h1 : s.slots = t.slots) (h2 : s.news.length = t.news.length) (h3 : ∀ id, s.ent id = t.ent id) : s = t := by
  obtain ⟨a, b, c⟩ := s
  obtain ⟨a', b', c'⟩ := t
  simp only at h1 h2
  subst h1
  have hb : b = b' := List.ext_getElem? fun k => h3 (.old k)
  subst hb
  have hc : c = c' := by
    apply List.ext_getElem h2
    intro i h h'
    apply List.ext_getElem?
    intro j
    have := h3 (.new i j)
    simpa [AS.ent, List.getD_eq_getElem?_getD, h, h'] using this
  rw [hc]

/-! ### Entries that are the same but for the mark -/

def Ent.sim : Ent → Ent → Prop
  | .obj v _ c, .obj v' _ c' => v = v' ∧ c = c'
  | .dead, .dead => True
  | _, _ => False

def simO : Option Ent → Option Ent → Prop
  | some a, some b => a.sim b
  | none, none => True
  | _, _ => False

def Ent.frz : Ent → Ent
  | .obj v _ c => .obj v true c
  | .dead => .dead

theorem Ent.sim_refl (a : Ent) : a.sim a := by cases a <;> simp [Ent.sim]
theorem simO_refl (a : Option Ent) : simO a a := by cases a <;> simp [simO, Ent.sim_refl]
theorem simO_of {a b : Option Ent} (h : a = b) : simO a b := h ▸ simO_refl a
theorem Ent.sim_frz (a : Ent) : a.sim a.frz := by cases a <;> simp [Ent.sim, Ent.frz]
theorem simO_frz (a : Option Ent) : simO a (a.map Ent.frz) := by cases a <;> simp [simO, Ent.sim_frz]
theorem simO_frz' (a : Option Ent) : simO (a.map Ent.frz) a := by
  cases a with
  | none => trivial
  | some x => cases x <;> simp [simO, Ent.sim, Ent.frz]
theorem Ent.frz_frz (a : Ent) : a.frz.frz = a.frz := by cases a <;> rfl

structure Agree (f : Foot) (s t : AS) : Prop where
  slots : ∀ i ∈ f.slots, t.slot i = s.slot i
  ws : ∀ id ∈ f.ws, t.ent id = s.ent id
  rs : ∀ id ∈ f.rs, simO (t.ent id) (s.ent id)
  virgin : ∀ q, f.dst = some q → t.virgin q = s.virgin q

structure Eff where
  v : AVal
  up : Id → Option Ent
  fz : List Id

structure App (d : Option Tmp) (E : Eff) (s s' : AS) : Prop where
  slots : s'.slots = (s.put d E.v).slots
  len : s'.news.length = s.news.length
  ent : ∀ id, s'.ent id = match E.up id with | some e => some e | none => if id ∈ E.fz then (s.ent id).map Ent.frz else s.ent id

theorem App.det {d : Option Tmp} {E : Eff} {s s1 s2 : AS} (h1 : App d E s s1) (h2 : App d E s s2) : s1 = s2 :=
  AS.ext_of (by rw [h1.slots, h2.slots]) (by rw [h1.len, h2.len]) fun id => by rw [h1.ent, h2.ent]

structure Within (f : Foot) (s : AS) (E : Eff) : Prop where
  up : ∀ id e, E.up id = some e → (id ∈ f.ws ∧ s.ent id ≠ none) ∨ ∃ q j, f.dst = some q ∧ id = .new q j
  fz : ∀ id ∈ E.fz, id ∈ f.rs

/-! ### Freezing, by places -/

theorem len_setEnt (s : AS) (id : Id) (e : Ent) : (s.setEnt id e).news.length = s.news.length := by cases id <;> simp [AS.setEnt]

theorem ent_freeze_eq (s : AS) (id i : Id) : (s.freeze id).ent i = if i = id then (s.ent i).map Ent.frz else s.ent i := by
  unfold AS.freeze
  cases hs : s.ent id with
  | none => by_cases hi : i = id
            · subst hi; simp [hs]
            · simp [hi]
  | some e =>
    cases e with
    | dead => by_cases hi : i = id
              · subst hi; simp [hs, Ent.frz]
              · simp [hi]
    | obj v fr c =>
      simp only
      by_cases hi : i = id
      · subst hi
        rw [ent_setEnt_self s i _ (by rw [hs]; simp)]
        simp [hs, Ent.frz]
      · rw [ent_setEnt_other s id i _ hi]; simp [hi]

theorem ent_freezeAll_eq (i : Id) : ∀ (ids : List Id) (s : AS), (s.freezeAll ids).ent i = if i ∈ ids then (s.ent i).map Ent.frz else s.ent i
  | [], s => by simp [AS.freezeAll]
  | id :: ids, s => by
    rw [AS.freezeAll, ent_freezeAll_eq i ids, ent_freeze_eq]
    by_cases h1 : i = id
    · subst h1
      by_cases h2 : i ∈ ids
      · simp [h2, Option.map_map, Function.comp_def, Ent.frz_frz]
      · simp [h2]
    · simp [h1]

theorem len_freeze (s : AS) (id : Id) : (s.freeze id).news.length = s.news.length := by
  unfold AS.freeze
  split
  · exact len_setEnt _ _ _
  · rfl
theorem len_freezeAll : ∀ (ids : List Id) (s : AS), (s.freezeAll ids).news.length = s.news.length
  | [], _ => rfl
  | id :: ids, s => by rw [AS.freezeAll, len_freezeAll ids, len_freeze]

theorem virgin_iff {s : AS} {q : Nat} : s.virgin q = true ↔ q < s.news.length ∧ ∀ j, s.ent (.new q j) = none := by
  refine ⟨fun h => ⟨(virgin_ent h).2, (virgin_ent h).1⟩, fun ⟨h1, h2⟩ => ?_⟩
  unfold AS.virgin
  rw [List.getElem?_eq_getElem h1]
  have h0 := h2 0
  simp only [AS.ent, List.getD_eq_getElem?_getD, List.getElem?_eq_getElem h1, Option.getD_some] at h0
  cases hh : s.news[q] with
  | nil => rfl
  | cons x xs => rw [hh] at h0; simp at h0

theorem App.freezePut (d : Option Tmp) (v : AVal) (ids : List Id) (s : AS) : App d ⟨v, fun _ => none, ids⟩ s ((s.freezeAll ids).put d v) := by
  refine ⟨?_, ?_, fun id => ?_⟩
  · cases d <;> simp [AS.put, slots_freezeAll]
  · cases d <;> simp [AS.put, len_freezeAll]
  · rw [ent_put, ent_freezeAll_eq]

theorem App.justPut (d : Option Tmp) (v : AVal) (s : AS) : App d ⟨v, fun _ => none, []⟩ s (s.put d v) := App.freezePut d v [] s

def bornUp (q : Nat) (es : List Ent) : Id → Option Ent
  | .new i j => if i = q then es[j]? else none
  | .old _ => none

theorem ent_born (s : AS) {q : Nat} (hq : q < s.news.length) (es : List Ent) (id : Id) : (s.born q es).ent id = match id with | .new i j => if i = q then es[j]? else s.ent (.new i j) | .old k => s.ent (.old k) := by
  cases id with
  | old k => rfl
  | new i j =>
    simp only
    by_cases h : i = q
    · subst h; rw [if_pos rfl]; exact ent_born_new hq _ j
    · rw [if_neg h]; exact ent_born_other _ fun j' e => by simp only [Id.new.injEq] at e; exact h e.1

theorem App.bornPut {s : AS} {q : Nat} (hv : s.virgin q = true) (v : AVal) (ids : List Id) (es : List Ent) : App (some q) ⟨v, bornUp q es, ids⟩ s (((s.freezeAll ids).born q es).put (some q) v) := by
  obtain ⟨h1, h2⟩ := virgin_iff.1 hv
  refine ⟨?_, ?_, fun id => ?_⟩
  · simp [AS.put, slots_freezeAll]
  · simp [AS.put, AS.born, len_freezeAll]
  · rw [ent_put, ent_born _ (by rw [len_freezeAll]; exact h1)]
    cases id with
    | old k => simp only [bornUp]; exact ent_freezeAll_eq _ _ _
    | new i j =>
      simp only [bornUp]
      by_cases h : i = q
      · subst h
        rw [if_pos rfl]
        cases he : es[j]? with
        | none => simp [h2]
        | some e => simp
      · rw [if_neg h]
        simp only [if_neg h]
        exact ent_freezeAll_eq _ _ _

theorem App.setPut {s : AS} {id : Id} {e0 : Ent} (hs : s.ent id = some e0) (d : Option Tmp) (v : AVal) (e : Ent) : App d ⟨v, fun i => if i = id then some e else none, []⟩ s ((s.setEnt id e).put d v) := by
  refine ⟨?_, ?_, fun i => ?_⟩
  · cases d <;> simp [AS.put]
  · cases d <;> simp [AS.put, len_setEnt]
  · rw [ent_put]
    by_cases hi : i = id
    · subst hi
      rw [ent_setEnt_self s i _ (by rw [hs]; simp)]
      simp
    · rw [ent_setEnt_other s id i _ hi]; simp [hi]

/-! ### What hangs on what -/

section
variable {P : Program} {Γ : Gam} {objs : List Nat} {ops : Array Oper} {o : Oper} {s t : AS}

def LocA (P : Program) (Γ : Gam) (objs : List Nat) (ops : Array Oper) (o : Oper) (s s' : AS) : Prop :=
  ∃ E, App o.dst E s s' ∧ Within (foot Γ ops s o) s E ∧ ∀ t, Agree (foot Γ ops s o) s t → ∃ t', (aop P Γ objs o t).eval = some t' ∧ App o.dst E t t'

theorem mem_opSlots {xs : Array Operand} {i : Nat} (h : Operand.tmp i ∈ xs.toList) : i ∈ opSlots xs := by
  unfold opSlots
  exact List.mem_filterMap.2 ⟨_, h, rfl⟩

theorem Agree.ev (h : Agree (foot Γ ops s o) s t) {x : Operand} (hx : x ∈ o.op.operands.toList) : t.ev x = s.ev x := by
  cases x with
  | tmp i => exact h.slots i (List.mem_append.2 (.inl (mem_opSlots hx)))
  | _ => rfl

theorem ofConst_ids (v : Value) : (ofConst v).ids = [] := by unfold ofConst; split <;> rfl

theorem ids_in {x : Operand} (hx : x ∈ o.op.operands.toList) {id : Id} (hid : id ∈ (s.ev x).ids) : id ∈ (foot Γ ops s o).rs := by
  refine List.mem_append.2 (.inl ?_)
  unfold opIds
  cases x with
  | tmp i => exact List.mem_flatMap.2 ⟨i, mem_opSlots hx, hid⟩
  | const v => simp [AS.ev, ofConst_ids] at hid
  | global _ => simp [AS.ev, AVal.ids] at hid
  | func f => simp [AS.ev, AVal.ids] at hid

theorem Agree.sim (h : Agree (foot Γ ops s o) s t) {x : Operand} (hx : x ∈ o.op.operands.toList) {id : Id} (hid : id ∈ (s.ev x).ids) : simO (t.ent id) (s.ent id) :=
  h.rs id (ids_in hx hid)

theorem sim_obj {id : Id} (h : simO (t.ent id) (s.ent id)) : (t.obj id = none ∧ s.obj id = none) ∨ ∃ v f f' c, t.obj id = some (v, f, c) ∧ s.obj id = some (v, f', c) := by
  unfold AS.obj
  revert h
  cases t.ent id with
  | none => cases s.ent id with
    | none => intro _; simp
    | some b => intro h; exact h.elim
  | some a => cases s.ent id with
    | none => intro h; exact h.elim
    | some b => cases a <;> cases b <;> intro h <;> first
        | exact h.elim
        | (left; exact ⟨rfl, rfl⟩)
        | (obtain ⟨rfl, rfl⟩ := h; right; exact ⟨_, _, _, _, rfl, rfl⟩)

theorem row_congr {id : Id} (h : simO (t.ent id) (s.ent id)) (ver : Nat) (p : List Stp) : t.row id ver p = s.row id ver p := by
  unfold AS.row
  rcases sim_obj h with ⟨h1, h2⟩ | ⟨v, f, f', c, h1, h2⟩ <;> rw [h1, h2]

theorem toTy_congr : ∀ (v : AVal) (ty : Ty), (∀ id ∈ v.ids, simO (t.ent id) (s.ent id)) → t.toTy ty v = s.toTy ty v
  | .sref id ver p c i len, ty, h => by
    cases ty <;> first
      | rfl
      | (simp only [AS.toTy]; rw [row_congr (h id (by simp [AVal.ids]))])
  | .pr a b, ty, h => by
    cases ty <;> first
      | rfl
      | (simp only [AS.toTy]; rw [toTy_congr a _ fun id hid => h id (by simp [AVal.ids, hid]), toTy_congr b _ fun id hid => h id (by simp [AVal.ids, hid])])
  | .undef, ty, _ | .gone, ty, _ | .nils, ty, _ | .nilp, ty, _ | .nilf, ty, _ | .nilm, ty, _ | .d _ _, ty, _ | .ptr .., ty, _ | .rptr .., ty, _ | .fn .., ty, _ | .cons .., ty, _ | .nil, ty, _ | .vec .., ty, _ | .bx .., ty, _ | .sb _, ty, _ => by
    cases ty <;> simp only [AS.toTy]

theorem shared_ids : ∀ (v : AVal), ∀ id ∈ v.shared, id ∈ v.ids
  | .sref .., id, h => by simpa [AVal.shared, AVal.ids] using h
  | .pr a b, id, h => by
    simp only [AVal.shared, List.mem_append, AVal.ids] at h ⊢
    rcases h with h | h
    · exact .inl (shared_ids a id h)
    · exact .inr (shared_ids b id h)
  | .undef, _, h | .gone, _, h | .nils, _, h | .nilp, _, h | .nilf, _, h | .nilm, _, h | .d _ _, _, h | .ptr .., _, h | .rptr .., _, h | .fn .., _, h | .cons .., _, h | .nil, _, h | .vec .., _, h | .bx .., _, h | .sb _, _, h => by
    simp [AVal.shared] at h

theorem loadA_congr {T : TypeId} {x : AVal} (h : ∀ id ∈ x.ids, simO (t.ent id) (s.ent id)) : loadA P t T x = loadA P s T x := by
  unfold loadA
  split
  · rename_i id ver p n
    rcases sim_obj (h id (by simp [AVal.ids])) with ⟨h1, h2⟩ | ⟨v, f, f', c, h1, h2⟩ <;> rw [h1, h2]
  · rfl
  · rfl

theorem bounds_congr {n : Nat} {lo hi : Option Operand} (hl : ∀ x, lo = some x → t.ev x = s.ev x) (hh : ∀ x, hi = some x → t.ev x = s.ev x) : bounds t n lo hi = bounds s n lo hi := by
  unfold bounds
  cases lo <;> cases hi <;> simp only [] <;> first
    | rfl
    | (rw [hl _ rfl, hh _ rfl])
    | rw [hl _ rfl]
    | rw [hh _ rfl]

theorem sliceA_congr {T : TypeId} {x : AVal} {lo hi : Option Operand} (h : ∀ id ∈ x.ids, simO (t.ent id) (s.ent id)) (hl : ∀ x, lo = some x → t.ev x = s.ev x) (hh : ∀ x, hi = some x → t.ev x = s.ev x) :
    sliceA P t T x lo hi = sliceA P s T x lo hi := by
  have hb : ∀ n, bounds t n lo hi = bounds s n lo hi := fun n => bounds_congr hl hh
  unfold sliceA
  split <;> first
    | rfl
    | (rw [row_congr (h _ (by simp [AVal.ids]))]; simp only [hb]; done)
    | (simp only [hb]; done)

theorem indexAddrA_congr {T : TypeId} {x : AVal} {i : Int} (h : ∀ id ∈ x.ids, simO (t.ent id) (s.ent id)) : indexAddrA P t T x i = indexAddrA P s T x i := by
  unfold indexAddrA
  split <;> first
    | rfl
    | rw [row_congr (h _ (by simp [AVal.ids]))]

theorem convA_congr {obj : Bool} {src dst : TypeId} {x : AVal} (h : ∀ id ∈ x.ids, simO (t.ent id) (s.ent id)) : convA P t obj src dst x = convA P s obj src dst x := by
  unfold convA
  split
  · rfl
  · unfold convB
    split <;> first
      | rfl
      | (simp only [AS.peek, toTy_congr _ _ h])

theorem eqP_congr {T : TypeId} {op : BinOp} {i : Id} {v : Nat} {j : Id} {w : Nat} (h : simO (t.ent i) (s.ent i)) : eqP P t T op i v j w = eqP P s T op i v j w := by
  unfold eqP
  rcases sim_obj h with ⟨h1, h2⟩ | ⟨v, f, f', c, h1, h2⟩ <;> rw [h1, h2]

theorem convP_congr {src dst : TypeId} {id : Id} {ver : Nat} (h : simO (t.ent id) (s.ent id)) : convP P t src dst id ver = convP P s src dst id ver := by
  unfold convP
  rcases sim_obj h with ⟨h1, h2⟩ | ⟨v, f, f', c, h1, h2⟩
  · rw [h1, h2]
  · rw [h1, h2]
    cases c <;> rfl

theorem setParts_congr {ty : Ty} : ∀ (ps : List (Nat × Operand)) (l : List ty.den), (∀ x ∈ ps, t.ev x.2 = s.ev x.2 ∧ ∀ id ∈ (s.ev x.2).ids, simO (t.ent id) (s.ent id)) → setParts ty t ps l = setParts ty s ps l
  | [], _, _ => rfl
  | (i, x) :: ps, l, h => by
    obtain ⟨h1, h2⟩ := h (i, x) (List.mem_cons_self ..)
    simp only [setParts]
    simp only at h1 h2
    rw [h1, toTy_congr _ _ h2]
    congr 2
    funext y
    rw [setParts_congr ps _ fun z hz => h z (List.mem_cons_of_mem _ hz)]

theorem setParts_shared {ty : Ty} : ∀ (ps : List (Nat × Operand)) (l : List ty.den) (r : List ty.den × List Id), (setParts ty s ps l).eval = some r → ∀ id ∈ r.2, ∃ x ∈ ps, id ∈ (s.ev x.2).ids
  | [], l, r, h, id, hid => by
    obtain rfl := eval_ok.1 h
    cases hid
  | (i, x) :: ps, l, r, h, id, hid => by
    simp only [setParts] at h
    obtain ⟨h1, h2⟩ := eval_guard.1 h
    obtain ⟨y, h3, h4⟩ := eval_bind.1 h2
    obtain ⟨r', h5, h6⟩ := eval_bind.1 h4
    obtain rfl := eval_ok.1 h6
    rcases List.mem_append.1 hid with hid | hid
    · exact ⟨(i, x), List.mem_cons_self .., shared_ids _ _ hid⟩
    · obtain ⟨z, hz, hz2⟩ := setParts_shared ps _ r' h5 id hid
      exact ⟨z, List.mem_cons_of_mem _ hz, hz2⟩

theorem setFields_congr {fs : Array Field} : ∀ (ps : List (Nat × Operand)) (v : AVal), (∀ x ∈ ps, t.ev x.2 = s.ev x.2) → setFields P fs t ps v = setFields P fs s ps v
  | [], _, _ => rfl
  | (i, x) :: ps, v, h => by
    have h1 := h (i, x) (List.mem_cons_self ..)
    simp only at h1
    simp only [setFields, h1]
    have ih : ∀ v, setFields P fs t ps v = setFields P fs s ps v := fun v => setFields_congr ps v fun z hz => h z (List.mem_cons_of_mem _ hz)
    simp only [ih]

theorem capsOf_congr : ∀ (l : List Operand), (∀ x ∈ l, t.ev x = s.ev x) → capsOf t l = capsOf s l
  | [], _ => rfl
  | x :: l, h => by
    simp only [capsOf]
    rw [h x (List.mem_cons_self ..), capsOf_congr l fun y hy => h y (List.mem_cons_of_mem _ hy)]

theorem moreA_congr {ty : Ty} {X : TypeId} {x : AVal} (h : ∀ id ∈ x.ids, simO (t.ent id) (s.ent id)) : moreA P t ty X x = moreA P s ty X x := by
  unfold moreA
  split
  · rfl
  · simp only [AS.peek, toTy_congr _ _ h]

/-! ### Operations of the plain kind -/

theorem loc_put {v : AVal} (h : ∀ t, Agree (foot Γ ops s o) s t → (aop P Γ objs o t).eval = some (t.put o.dst v)) : LocA P Γ objs ops o s (s.put o.dst v) :=
  ⟨⟨v, fun _ => none, []⟩, App.justPut _ _ _, ⟨fun _ _ h => by simp at h, fun _ h => by simp at h⟩, fun t ht => ⟨_, h t ht, App.justPut _ _ _⟩⟩

theorem loc_out {F : AS → Out AVal} (ho : ∀ t, aop P Γ objs o t = (F t).bind fun v => .ok (t.put o.dst v)) (hF : ∀ t, Agree (foot Γ ops s o) s t → F t = F s) {s' : AS} (he : (aop P Γ objs o s).eval = some s') : LocA P Γ objs ops o s s' := by
  rw [ho] at he
  obtain ⟨v, h1, h2⟩ := eval_bind.1 he
  obtain rfl := eval_ok.1 h2
  refine loc_put fun t ht => ?_
  rw [ho, hF t ht, eval_bind]
  exact ⟨v, h1, rfl⟩

/-- What is frozen. -/
theorem loc_frz {v : AVal} {ids : List Id} (hi : ∀ id ∈ ids, id ∈ (foot Γ ops s o).rs) (h : ∀ t, Agree (foot Γ ops s o) s t → (aop P Γ objs o t).eval = some ((t.freezeAll ids).put o.dst v)) : LocA P Γ objs ops o s ((s.freezeAll ids).put o.dst v) :=
  ⟨⟨v, fun _ => none, ids⟩, App.freezePut _ _ _ _, ⟨fun _ _ h => by simp at h, hi⟩, fun t ht => ⟨_, h t ht, App.freezePut _ _ _ _⟩⟩

/-- What is new. -/
theorem loc_born {v : AVal} {ids : List Id} {q : Nat} {es : List Ent} (hd : o.dst = some q) (hv : s.virgin q = true) (hi : ∀ id ∈ ids, id ∈ (foot Γ ops s o).rs)
    (h : ∀ t, Agree (foot Γ ops s o) s t → t.virgin q = true → (aop P Γ objs o t).eval = some (((t.freezeAll ids).born q es).put o.dst v)) : LocA P Γ objs ops o s (((s.freezeAll ids).born q es).put o.dst v) := by
  refine ⟨⟨v, bornUp q es, ids⟩, by rw [hd]; exact App.bornPut hv _ _ _, ⟨fun id e h => .inr ?_, hi⟩, fun t ht => ?_⟩
  · cases id with
    | old _ => simp [bornUp] at h
    | new i j =>
      simp only [bornUp] at h
      split at h
      · rename_i hq; exact ⟨q, j, hd, by rw [hq]⟩
      · cases h
  · have hv' : t.virgin q = true := by rw [ht.virgin q hd]; exact hv
    exact ⟨_, h t ht hv', by rw [hd]; exact App.bornPut hv' _ _ _⟩

/-- What is changed. -/
theorem loc_set {v : AVal} {id : Id} {e0 e : Ent} (hs : s.ent id = some e0) (hw : id ∈ (foot Γ ops s o).ws) (h : ∀ t, Agree (foot Γ ops s o) s t → t.ent id = s.ent id → (aop P Γ objs o t).eval = some ((t.setEnt id e).put o.dst v)) :
    LocA P Γ objs ops o s ((s.setEnt id e).put o.dst v) := by
  refine ⟨⟨v, fun i => if i = id then some e else none, []⟩, App.setPut hs _ _ _, ⟨fun i e' h => .inl ?_, fun _ h => by simp at h⟩, fun t ht => ?_⟩
  · simp only at h
    split at h
    · rename_i hi; subst hi; exact ⟨hw, by rw [hs]; simp⟩
    · cases h
  · have := ht.ws id hw
    exact ⟨_, h t ht this, App.setPut (this.trans hs) _ _ _⟩

end
end Go.Ab

/-
  Drawn regions, second part: every operation hangs on its footprint alone.
-/
namespace Go.Ab

section
variable {P : Program} {Γ : Gam} {objs : List Nat} {ops : Array Oper} {o : Oper} {s t : AS}

/-! ### Stores, appends -/

theorem storeA_local {T : TypeId} {x v : AVal} {s' : AS} (h : (storeA P s T x v).eval = some s') :
    ∃ id e0 e, x.ids = [id] ∧ s.ent id = some e0 ∧ s' = s.setEnt id e ∧ ∀ t : AS, t.ent id = s.ent id → (storeA P t T x v).eval = some (t.setEnt id e) := by
  unfold storeA at h
  split at h
  · rename_i id ver p n
    cases hob : s.obj id with
    | none => rw [hob] at h; simp only [eval_fail] at h
    | some r =>
      obtain ⟨ve, fr, c⟩ := r
      rw [hob] at h
      obtain ⟨h1, h2⟩ := eval_guard.1 h
      obtain ⟨r, h3, h4⟩ := eval_bind.1 h2
      obtain ⟨h5, h6⟩ := eval_guard.1 h4
      obtain ⟨h7, h8⟩ := eval_chk.1 h6
      obtain ⟨c', h9, h10⟩ := eval_bind.1 h8
      obtain rfl := eval_ok.1 h10
      refine ⟨id, _, _, rfl, obj_some hob, rfl, fun t ht => ?_⟩
      have hob' : t.obj id = some (ve, fr, c) := by simp only [AS.obj, ht]; exact hob
      unfold storeA
      simp only [hob']
      exact eval_guard.2 ⟨h1, eval_bind.2 ⟨r, h3, eval_guard.2 ⟨h5, eval_chk.2 ⟨h7, eval_bind.2 ⟨c', h9, eval_ok.2 rfl⟩⟩⟩⟩⟩
  · simp only [eval_fail] at h

theorem append_local {c : Call} {x y : Operand} {T X : TypeId} (hop : o.op = .call c) (hc : c.callee = .builtin .append) (ha : c.args.toList = [x, y]) (ht : c.argTypes.toList = [T, X]) (hne : ∀ k n, s.ev x = .nils → s.ev y = .d (.int k) n → False) {s' : AS}
    (he : (appendA P s o.dst T X (s.ev x) (s.ev y)).eval = some s') : LocA P Γ objs ops o s s' := by
  have hao : ∀ t : AS, t.ev x = s.ev x → t.ev y = s.ev y → aop P Γ objs o t = appendA P t o.dst T X (t.ev x) (t.ev y) := fun t e1 e2 => by
    unfold aop
    rw [hop]
    simp only [hc, ha, ht]
    split
    · rename_i k n hx hy
      rw [e1] at hx
      rw [e2] at hy
      exact (hne k n hx hy).elim
    · rfl
  have hmem : ∀ z, z = x ∨ z = y → z ∈ o.op.operands.toList := fun z hz => by
    rw [hop]
    simp only [Op.operands, Call.operands, hc, List.nil_append, Array.toList_append, ha]
    simpa using hz
  have hx : ∀ t, Agree (foot Γ ops s o) s t → t.ev x = s.ev x := fun t h => h.ev (hmem x (.inl rfl))
  have hy : ∀ t, Agree (foot Γ ops s o) s t → t.ev y = s.ev y := fun t h => h.ev (hmem y (.inr rfl))
  have hm : ∀ t, Agree (foot Γ ops s o) s t → ∀ ty, moreA P t ty X (s.ev y) = moreA P s ty X (s.ev y) := fun t h ty => moreA_congr fun id hid => h.sim (hmem y (.inr rfl)) hid
  unfold appendA at he
  split at he
  · rename_i e ty b q hel hd
    obtain ⟨m, h1, h2⟩ := eval_bind.1 he
    split at h2
    · rename_i hnx
      obtain ⟨h3, h4⟩ := eval_guard.1 h2
      obtain ⟨h5, h6⟩ := eval_chk.1 h4
      obtain rfl := eval_ok.1 h6
      refine loc_born (ids := []) hd h3 (fun _ h => by cases h) fun t ht hv => ?_
      rw [hao t (hx t ht) (hy t ht), hx t ht, hy t ht]
      unfold appendA
      simp only [hel, hd, hnx]
      refine eval_bind.2 ⟨m, by rw [hm t ht]; exact h1, ?_⟩
      exact eval_guard.2 ⟨hv, eval_chk.2 ⟨h5, eval_ok.2 rfl⟩⟩
    · rename_i id ver len hnx
      split at h2
      · rename_i v fr e' t' l hob
        obtain ⟨h3, h4⟩ := eval_guard.1 h2
        obtain ⟨l', h5, h6⟩ := eval_bind.1 h4
        obtain ⟨h7, h8⟩ := eval_chk.1 h6
        obtain ⟨h9, h10⟩ := eval_chk.1 h8
        obtain ⟨h11, h12⟩ := eval_chk.1 h10
        obtain rfl := eval_ok.1 h12
        have hw : id ∈ (foot Γ ops s o).ws := by
          show id ∈ writes Γ s o
          unfold writes
          rw [hop]
          simp only [hc, ha, hnx]
          simp [AVal.ids]
        refine loc_set (obj_some hob) hw fun t ht hte => ?_
        rw [hao t (hx t ht) (hy t ht), hx t ht, hy t ht]
        have hob' : t.obj id = some (v, fr, .vec e' t' l) := by simp only [AS.obj, hte]; exact hob
        unfold appendA
        simp only [hel, hd, hnx]
        refine eval_bind.2 ⟨m, by rw [hm t ht]; exact h1, ?_⟩
        simp only [hob']
        exact eval_guard.2 ⟨h3, eval_bind.2 ⟨l', h5, eval_chk.2 ⟨h7, eval_chk.2 ⟨h9, eval_chk.2 ⟨h11, eval_ok.2 rfl⟩⟩⟩⟩⟩
      · simp only [eval_fail] at h2
    · simp only [eval_fail] at h2
  · simp only [eval_fail] at he

/-! ### Calls -/

theorem reach_sub : ∀ (n : Nat) (todo acc : List Id), ∀ id ∈ acc, id ∈ s.reach n todo acc
  | 0, _, _, id, h => h
  | _ + 1, [], _, id, h => h
  | n + 1, x :: todo, acc, id, h => by
    rw [AS.reach]
    split
    · exact reach_sub n todo acc id h
    · exact reach_sub n _ _ id (List.mem_append.2 (.inl h))

theorem reach_congr : ∀ (n : Nat) (todo acc : List Id), (∀ id ∈ s.reach n todo acc, ((t.ent id).getD .dead).ids = ((s.ent id).getD .dead).ids) → t.reach n todo acc = s.reach n todo acc
  | 0, _, _, _ => rfl
  | _ + 1, [], _, _ => rfl
  | n + 1, x :: todo, acc, h => by
    rw [AS.reach] at h
    rw [AS.reach, AS.reach]
    split
    · rename_i hc
      rw [if_pos hc] at h
      exact reach_congr n todo acc h
    · rename_i hc
      rw [if_neg hc] at h
      have hx := h x (reach_sub n _ _ x (List.mem_append.2 (.inr (List.mem_singleton.2 rfl))))
      rw [hx]
      exact reach_congr n _ _ h

theorem ids_frz (e : Option Ent) : ((e.map Ent.frz).getD .dead).ids = (e.getD .dead).ids := by
  cases e with
  | none => rfl
  | some x => cases x <;> rfl

theorem reach_freezeAll (ids : List Id) (n : Nat) (todo acc : List Id) : (s.freezeAll ids).reach n todo acc = s.reach n todo acc := by
  refine reach_congr n todo acc fun id _ => ?_
  rw [ent_freezeAll_eq]
  split
  · exact ids_frz _
  · rfl

theorem conv_congr : ∀ (ps : List (Option Ty)) (vs : List AVal), (∀ v ∈ vs, ∀ id ∈ v.ids, simO (t.ent id) (s.ent id)) → t.conv ps vs = s.conv ps vs
  | [], [], _ => rfl
  | [], _ :: _, _ => rfl
  | some _ :: _, [], _ => rfl
  | none :: _, [], _ => rfl
  | some ty :: ps, v :: vs, h => by
    simp only [AS.conv]
    rw [toTy_congr v ty (h v (List.mem_cons_self ..)), conv_congr ps vs fun x hx => h x (List.mem_cons_of_mem _ hx)]
  | none :: ps, v :: vs, h => by
    simp only [AS.conv]
    rw [conv_congr ps vs fun x hx => h x (List.mem_cons_of_mem _ hx)]

theorem conv_parts : ∀ (ps : List (Option Ty)) (vs : List AVal) (r : List AVal × List Id), (s.conv ps vs).eval = some r → r.1.flatMap AVal.ids = lendIds ps vs ∧ ∀ id ∈ r.2, ∃ v ∈ vs, id ∈ v.ids
  | [], [], r, h => by
    simp only [AS.conv, eval_ok] at h
    subst h
    exact ⟨rfl, fun _ h => by cases h⟩
  | some ty :: ps, v :: vs, r, h => by
    simp only [AS.conv] at h
    obtain ⟨x, h1, h2⟩ := eval_bind.1 h
    obtain ⟨r', h3, h4⟩ := eval_bind.1 h2
    obtain rfl := eval_ok.1 h4
    obtain ⟨i1, i2⟩ := conv_parts ps vs r' h3
    refine ⟨by simp [lendIds, i1, AVal.ids], fun id hid => ?_⟩
    rcases List.mem_append.1 hid with hid | hid
    · exact ⟨v, List.mem_cons_self .., shared_ids v id hid⟩
    · obtain ⟨u, hu, hu2⟩ := i2 id hid
      exact ⟨u, List.mem_cons_of_mem _ hu, hu2⟩
  | none :: ps, v :: vs, r, h => by
    simp only [AS.conv] at h
    obtain ⟨r', h3, h4⟩ := eval_bind.1 h
    obtain rfl := eval_ok.1 h4
    obtain ⟨i1, i2⟩ := conv_parts ps vs r' h3
    refine ⟨by simp [lendIds, i1], fun id hid => ?_⟩
    obtain ⟨u, hu, hu2⟩ := i2 id hid
    exact ⟨u, List.mem_cons_of_mem _ hu, hu2⟩
  | [], _ :: _, _, h => by simp only [AS.conv, eval_fail] at h
  | some _ :: _, [], _, h => by simp only [AS.conv, eval_fail] at h
  | none :: _, [], _, h => by simp only [AS.conv, eval_fail] at h

theorem list_ids : ∀ (c : AVal), ∀ v ∈ c.list, ∀ id ∈ v.ids, id ∈ c.ids
  | .cons a b, v, hv, id, hid => by
    simp only [AVal.list, List.mem_cons] at hv
    simp only [AVal.ids, List.mem_append]
    rcases hv with rfl | hv
    · exact .inl hid
    · exact .inr (list_ids b v hv id hid)
  | .sb _, _, h, _, _ | .undef, _, h, _, _ | .gone, _, h, _, _ | .nils, _, h, _, _ | .nilp, _, h, _, _ | .nilf, _, h, _, _ | .nilm, _, h, _, _ | .d _ _, _, h, _, _ | .ptr .., _, h, _, _ | .rptr .., _, h, _, _
  | .fn .., _, h, _, _ | .pr .., _, h, _, _ | .nil, _, h, _, _ | .vec .., _, h, _, _ | .bx .., _, h, _, _ | .sref .., _, h, _, _ => by simp [AVal.list] at h

theorem refIn_congr {ids : List Id} (h : ∀ id ∈ ids, t.ent id = s.ent id) : t.refIn ids = s.refIn ids := by
  funext id ver
  unfold AS.refIn
  cases hi : idxOf id ids with
  | none => rfl
  | some k =>
    have : t.obj id = s.obj id := by simp only [AS.obj, h id (List.mem_of_getElem? (idxOf_some hi))]
    rw [this]

theorem verOf_congr {id : Id} (h : t.ent id = s.ent id) : t.verOf id = s.verOf id := by simp only [AS.verOf, AS.obj, h]

theorem refOut_congr {ids : List Id} (h : ∀ id ∈ ids, t.ent id = s.ent id) (q : Nat) : t.refOut ids q = s.refOut ids q := by
  funext id ver
  cases id with
  | new i j => rfl
  | old k =>
    simp only [AS.refOut]
    cases hk : ids[k]? with
    | none => rfl
    | some id => simp only [verOf_congr (h id (List.mem_of_getElem? hk))]

theorem entOut_congr {ids : List Id} (h : ∀ id ∈ ids, t.ent id = s.ent id) (q b : Nat) : t.entOut ids q b = s.entOut ids q b := by
  funext e
  cases e <;> simp only [AS.entOut, refOut_congr h]

theorem entIn_congr {ids : List Id} (h : ∀ id ∈ ids, t.ent id = s.ent id) {id : Id} (hid : id ∈ ids) : t.entIn ids id = s.entIn ids id := by
  unfold AS.entIn
  rw [h id hid, refIn_congr h]

def backSt (s : AS) (ids : List Id) (d : Option Tmp) (G : GRes) : AS :=
  (AS.setEnts s ids (d.getD 0) (s.made ids (d.getD 0) G.news) ids G.olds).put d (G.val.ren (s.refOut ids (d.getD 0)))

theorem back_some {ids : List Id} {d : Option Tmp} {G : GRes} {s' : AS} : (s.back ids d G).eval = some s' ↔ (G.olds.length = ids.length ∧ (G.news = [] ∨ ∃ q, d = some q ∧ s.virgin q = true)) ∧ s' = backSt s ids d G := by
  unfold AS.back
  cases d with
  | none =>
    rw [eval_guard, eval_ok]
    simp only [Bool.and_eq_true, beq_iff_eq, List.isEmpty_iff, backSt, AS.put, Option.getD_none]
    constructor
    · rintro ⟨⟨h1, h2⟩, rfl⟩
      rw [h2]; exact ⟨⟨h1, .inl rfl⟩, rfl⟩
    · rintro ⟨⟨h1, h2⟩, rfl⟩
      rcases h2 with h2 | ⟨q, hq, _⟩
      · rw [h2]; exact ⟨⟨h1, rfl⟩, rfl⟩
      · cases hq
  | some q =>
    rw [eval_guard, eval_ok]
    simp only [Bool.and_eq_true, beq_iff_eq, Bool.or_eq_true, List.isEmpty_iff, backSt, Option.getD_some]
    constructor
    · rintro ⟨⟨h1, h2⟩, rfl⟩
      exact ⟨⟨h1, h2.imp id fun h => ⟨q, rfl, h⟩⟩, rfl⟩
    · rintro ⟨⟨h1, h2⟩, rfl⟩
      refine ⟨⟨h1, h2.imp id fun ⟨q', hq, h⟩ => ?_⟩, rfl⟩
      obtain rfl : q = q' := by simpa using hq
      exact h

theorem len_setEnts (s0 : AS) (all : List Id) (q : Nat) : ∀ (ids : List Id) (es : List Ent) (s : AS), (AS.setEnts s0 all q s ids es).news.length = s.news.length
  | [], _, _ => by simp [AS.setEnts]
  | _ :: _, [], _ => by simp [AS.setEnts]
  | id :: ids, e :: es, s => by rw [AS.setEnts, len_setEnts s0 all q ids es, len_setEnt]

theorem len_made (s : AS) (ids : List Id) (q : Nat) (es : List Ent) : (s.made ids q es).news.length = s.news.length := by
  cases es <;> simp [AS.made, AS.born]

/-- The ids that a call sets. -/
def touched (ids : List Id) (d : Option Tmp) (G : GRes) (id : Id) : Prop := id ∈ ids ∨ (G.news ≠ [] ∧ ∃ q j, d = some q ∧ id = .new q j)

theorem backSt_ent {ids : List Id} {d : Option Tmp} {G : GRes} (hn : ids.Nodup) (hp : ∀ id ∈ ids, s.ent id ≠ none) (hl : G.olds.length = ids.length) (hv : G.news = [] ∨ ∃ q, d = some q ∧ s.virgin q = true) :
    (∀ id, ¬ touched ids d G id → (backSt s ids d G).ent id = s.ent id) ∧
    (∀ (k : Nat) (id : Id) (e : Ent), ids[k]? = some id → G.olds[k]? = some e → (backSt s ids d G).ent id = some (s.entOut ids (d.getD 0) (s.verOf id) e)) ∧
    (∀ q j, G.news ≠ [] → d = some q → (backSt s ids d G).ent (.new q j) = (G.news[j]?).map (s.entOut ids q 0)) ∧
    (∀ q j, G.news ≠ [] → d = some q → s.ent (.new q j) = none) := by
  have hv' : G.news = [] ∨ s.virgin (d.getD 0) = true := by
    rcases hv with h | ⟨q, rfl, h⟩
    · exact .inl h
    · exact .inr h
  obtain ⟨m1, m2⟩ := ent_made s ids (d.getD 0) G.news hv'
  have hnone : ∀ q j, G.news ≠ [] → d = some q → s.ent (.new q j) = none := fun q j h1 h2 => by
    rcases hv' with h | h
    · exact absurd h h1
    · subst h2; exact (virgin_iff.1 h).2 j
  have hnew : ∀ id, s.ent id ≠ none → G.news = [] ∨ ∀ j, id ≠ .new (d.getD 0) j := fun id hid => by
    rcases hv with h | ⟨q, rfl, h⟩
    · exact .inl h
    · exact .inr fun j e => hid (by rw [e]; exact (virgin_iff.1 h).2 j)
  obtain ⟨n1, n2⟩ := ent_setEnts s ids (d.getD 0) ids G.olds (s.made ids (d.getD 0) G.news) hn hl (fun id hid => by rw [m1 id (hnew id (hp id hid))]; exact hp id hid)
  refine ⟨fun id hid => ?_, fun k id e h1 h2 => ?_, fun q j h1 h2 => ?_, hnone⟩
  · unfold touched at hid
    simp only [not_or] at hid
    rw [backSt, ent_put, n1 id hid.1]
    refine m1 id ?_
    by_cases hne : G.news = []
    · exact .inl hne
    · right
      intro j e
      rcases hv with h | ⟨q, hq, _⟩
      · exact hne h
      · exact hid.2 ⟨hne, q, j, hq, by rw [e, hq]; rfl⟩
  · rw [backSt, ent_put, n2 k id e h1 h2]
  · subst h2
    have hnot : Id.new q j ∉ ids := fun hid => hp _ hid (hnone q j h1 rfl)
    rw [backSt, ent_put, n1 _ hnot]
    exact m2 h1 j

open Classical in
theorem call_local {c : Call} {F : Operand} {f : FuncId} {caps : AVal} {en : Entry} (hop : o.op = .call c) (hc : c.callee = .value F) (hF : s.ev F = .fn f caps) (hΓ : Γ f (c.args.toList.map s.ev ++ caps.list) = some en) {s' : AS}
    (he : (s.call en o.dst (c.args.toList.map s.ev ++ caps.list)).eval = some s') : LocA P Γ objs ops o s s' := by
  have hmem : ∀ z, z = F ∨ z ∈ c.args.toList → z ∈ o.op.operands.toList := fun z hz => by
    rw [hop]
    simp only [Op.operands, Call.operands, hc, Array.toList_append, List.mem_append]
    rcases hz with rfl | hz
    · exact .inl (by simp)
    · exact .inr hz
  -- what the values hang on
  have hvids : ∀ v ∈ c.args.toList.map s.ev ++ caps.list, ∀ id ∈ v.ids, id ∈ (foot Γ ops s o).rs := fun v hv id hid => by
    rcases List.mem_append.1 hv with hv | hv
    · obtain ⟨x, hx, rfl⟩ := List.mem_map.1 hv
      exact ids_in (hmem x (.inr hx)) hid
    · refine ids_in (hmem F (.inl rfl)) ?_
      rw [hF]
      exact list_ids caps v hv id hid
  generalize hvs : c.args.toList.map s.ev ++ caps.list = vs at he hvids hΓ
  have hws : (foot Γ ops s o).ws = s.reach 64 (lendIds en.params vs) [] := by
    show writes Γ s o = _
    unfold writes
    rw [hop]
    simp only [hc, hF, hvs, hΓ]
  have hao : ∀ t, Agree (foot Γ ops s o) s t → aop P Γ objs o t = t.call en o.dst vs := fun t ht => by
    unfold aop
    rw [hop]
    have h1 : t.ev F = .fn f caps := by rw [ht.ev (hmem F (.inl rfl)), hF]
    have h2 : c.args.toList.map t.ev = c.args.toList.map s.ev := List.map_congr_left fun x hx => ht.ev (hmem x (.inr hx))
    obtain ⟨cal, args, tys⟩ := c
    simp only at hc hvs h2
    subst hc
    simp only [h1, h2, hvs, hΓ]
  unfold AS.call at he
  obtain ⟨r, h1, h2⟩ := eval_bind.1 he
  obtain ⟨hr1, hr2⟩ := conv_parts _ _ r h1
  have hlends : ∀ t : AS, (t.freezeAll r.2).lends r.1 = t.reach 64 (lendIds en.params vs) [] := fun t => by
    unfold AS.lends
    rw [reach_freezeAll, hr1]
  rw [hlends] at h2
  generalize hW : s.reach 64 (lendIds en.params vs) [] = W at h2 hws
  have hWn : W.Nodup := by rw [← hW]; exact reach_nodup s _ _ _ (by simp)
  unfold AS.enter at h2
  obtain ⟨hall, h3⟩ := eval_guard.1 h2
  obtain ⟨x, hx, h4⟩ := eval_get.1 h3
  obtain ⟨⟨hl, hv⟩, rfl⟩ := back_some.1 h4
  generalize hG : en.out (r.1.map (AVal.ren ((s.freezeAll r.2).refIn W))) (W.map ((s.freezeAll r.2).entIn W)) x = G at hl hv h4 ⊢
  have hp : ∀ id ∈ W, (s.freezeAll r.2).ent id ≠ none := fun id hid => by
    have := List.all_eq_true.1 hall id hid
    obtain ⟨⟨v, fr, c⟩, hr⟩ := Option.isSome_iff_exists.1 this
    rw [obj_some hr]; simp
  obtain ⟨b1, b2, b3, b4⟩ := backSt_ent (s := s.freezeAll r.2) (d := o.dst) hWn hp hl hv
  have hfzent : ∀ (u : AS) id, u.ent id = none ↔ (u.freezeAll r.2).ent id = none := fun u id => by
    rw [ent_freezeAll_eq]; split <;> simp
  let E : Eff := ⟨G.val.ren ((s.freezeAll r.2).refOut W (o.dst.getD 0)), fun id => if touched W o.dst G id then (backSt (s.freezeAll r.2) W o.dst G).ent id else none, r.2⟩
  have hslots : ∀ u : AS, (backSt (u.freezeAll r.2) W o.dst G).slots = (u.put o.dst (G.val.ren ((u.freezeAll r.2).refOut W (o.dst.getD 0)))).slots := fun u => by
    unfold backSt
    cases o.dst <;> simp [AS.put, slots_setEnts, slots_made, slots_freezeAll]
  have hlen : ∀ u : AS, (backSt (u.freezeAll r.2) W o.dst G).news.length = u.news.length := fun u => by
    unfold backSt
    cases o.dst <;> simp [AS.put, len_setEnts, len_made, len_freezeAll]
  refine ⟨E, ⟨hslots s, hlen s, fun id => ?_⟩, ⟨fun id e hup => ?_, fun id hid => ?_⟩, fun t ht => ?_⟩
  · by_cases hto : touched W o.dst G id
    · have hup : E.up id = (backSt (s.freezeAll r.2) W o.dst G).ent id := if_pos hto
      rw [hup]
      cases hb : (backSt (s.freezeAll r.2) W o.dst G).ent id with
      | some e => rfl
      | none =>
        rcases hto with hid | ⟨hne, q, j, hq, rfl⟩
        · obtain ⟨k, hk⟩ := List.mem_iff_getElem?.1 hid
          have hlt : k < G.olds.length := by rw [hl]; exact (List.getElem?_eq_some_iff.1 hk).1
          rw [b2 k id _ hk (List.getElem?_eq_getElem hlt)] at hb
          cases hb
        · have := (hfzent s _).2 (b4 q j hne hq)
          simp [this]
    · have hup : E.up id = none := if_neg hto
      rw [hup, b1 id hto, ent_freezeAll_eq]
  · by_cases hto : touched W o.dst G id
    · rcases hto with hid | ⟨_, q, j, hq, rfl⟩
      · left
        refine ⟨by rw [hws]; exact hid, fun h => hp id hid ((hfzent s id).1 h)⟩
      · exact .inr ⟨q, j, hq, rfl⟩
    · have : E.up id = none := if_neg hto
      rw [this] at hup; cases hup
  · obtain ⟨v, hv, hid⟩ := hr2 id hid
    exact hvids v hv id hid
  · have hco : t.conv en.params vs = s.conv en.params vs := conv_congr _ _ fun v hv id hid => ht.rs id (hvids v hv id hid)
    have hag : ∀ id ∈ W, t.ent id = s.ent id := fun id hid => ht.ws id (by rw [hws]; exact hid)
    have hagf : ∀ id ∈ W, (t.freezeAll r.2).ent id = (s.freezeAll r.2).ent id := fun id hid => by
      rw [ent_freezeAll_eq, ent_freezeAll_eq, hag id hid]
    have hWt : t.reach 64 (lendIds en.params vs) [] = W := by
      rw [← hW]
      refine reach_congr _ _ _ fun id hid => ?_
      rw [hag id (by rw [← hW]; exact hid)]
    have hvt : G.news = [] ∨ ∃ q, o.dst = some q ∧ (t.freezeAll r.2).virgin q = true := hv.imp id fun ⟨q, hq, h⟩ => ⟨q, hq, by
      rw [virgin_freezeAll] at h ⊢
      rw [ht.virgin q hq]; exact h⟩
    have hpt : ∀ id ∈ W, (t.freezeAll r.2).ent id ≠ none := fun id hid => by rw [hagf id hid]; exact hp id hid
    obtain ⟨d1, d2, d3, d4⟩ := backSt_ent (s := t.freezeAll r.2) (d := o.dst) hWn hpt hl hvt
    refine ⟨backSt (t.freezeAll r.2) W o.dst G, ?_, ⟨?_, hlen t, fun id => ?_⟩⟩
    · rw [hao t ht]
      unfold AS.call
      rw [hco]
      refine eval_bind.2 ⟨r, h1, ?_⟩
      rw [hlends, hWt]
      unfold AS.enter
      have hA : (t.freezeAll r.2).refIn W = (s.freezeAll r.2).refIn W := refIn_congr hagf
      have hO : W.map ((t.freezeAll r.2).entIn W) = W.map ((s.freezeAll r.2).entIn W) := List.map_congr_left fun id hid => entIn_congr hagf hid
      refine eval_guard.2 ⟨?_, eval_get.2 ⟨x, ?_, ?_⟩⟩
      · refine List.all_eq_true.2 fun id hid => ?_
        have := List.all_eq_true.1 hall id hid
        simp only [AS.obj] at this ⊢
        rw [hagf id hid]
        exact this
      · rw [hA, hO, ← hx]
      · rw [hA, hO, hG]
        exact back_some.2 ⟨⟨hl, hvt⟩, rfl⟩
    · rw [hslots t, refOut_congr hagf]
    · by_cases hto : touched W o.dst G id
      · have hup : E.up id = (backSt (s.freezeAll r.2) W o.dst G).ent id := if_pos hto
        rw [hup]
        rcases hto with hid | ⟨hne, q, j, hq, rfl⟩
        · obtain ⟨k, hk⟩ := List.mem_iff_getElem?.1 hid
          have hlt : k < G.olds.length := by rw [hl]; exact (List.getElem?_eq_some_iff.1 hk).1
          rw [b2 k id _ hk (List.getElem?_eq_getElem hlt), d2 k id _ hk (List.getElem?_eq_getElem hlt), entOut_congr hagf, verOf_congr (hagf id hid)]
        · rw [b3 q j hne hq, d3 q j hne hq, entOut_congr hagf]
          cases hn : G.news[j]? with
          | some e => rfl
          | none =>
            have := (hfzent t _).2 (d4 q j hne hq)
            simp [this]
      · have hup : E.up id = none := if_neg hto
        rw [hup, d1 id hto, ent_freezeAll_eq]

end
end Go.Ab

/-
  Drawn regions, third part: every operation, continued.
-/
namespace Go.Ab

section
variable {P : Program} {Γ : Gam} {objs : List Nat} {ops : Array Oper} {o : Oper} {s t : AS}

theorem Out.bind_assoc {α β γ : Type} (o : Out α) (f : α → Out β) (g : β → Out γ) : (o.bind f).bind g = o.bind fun a => (f a).bind g := by
  induction o with
  | ok a => rfl
  | fail => rfl
  | chk c r ih => simp only [Out.bind, ih]
  | get x h ih => simp only [Out.bind, ih]
  | br c x y ih1 ih2 => simp only [Out.bind, ih1, ih2]

theorem part_mem {parts : Array (Nat × Operand)} {x : Nat × Operand} (h : x ∈ parts.toList) : x.2 ∈ (parts.toList.map (·.2)).toArray.toList := List.mem_map.2 ⟨x, h, rfl⟩

theorem box_local {T : TypeId} {x : Operand} (hop : o.op = .box T x) {s' : AS} (he : (boxA P s (isObj objs o.dst) o.dst T (s.ev x)).eval = some s') : LocA P Γ objs ops o s s' := by
  have hao : ∀ t, aop P Γ objs o t = boxA P t (isObj objs o.dst) o.dst T (t.ev x) := fun t => by unfold aop; rw [hop]
  have hm : x ∈ o.op.operands.toList := by rw [hop]; simp [Op.operands]
  unfold boxA at he
  split at he
  · rename_i q hd
    split at he
    · rename_i ho
      obtain ⟨h1, h2⟩ := eval_guard.1 he
      obtain rfl := eval_ok.1 h2
      simp only [Bool.and_eq_true] at h1
      refine loc_born (ids := []) hd h1.1 (fun _ h => by cases h) fun t ht hv => ?_
      rw [hao, ht.ev hm]
      unfold boxA
      simp only [hd] at ho ⊢
      simp only [ho]
      exact eval_guard.2 ⟨by simp [hv, h1.2], eval_ok.2 rfl⟩
    · rename_i ho
      split at he
      · rename_i ty hty
        obtain ⟨h1, h2⟩ := eval_guard.1 he
        obtain ⟨y, h3, h4⟩ := eval_bind.1 h2
        obtain rfl := eval_ok.1 h4
        refine loc_frz (fun id hid => ids_in hm (shared_ids _ _ hid)) fun t ht => ?_
        rw [hao, ht.ev hm]
        unfold boxA
        simp only [hd] at ho ⊢
        simp only [ho, hty]
        refine eval_guard.2 ⟨h1, eval_bind.2 ⟨y, ?_, eval_ok.2 rfl⟩⟩
        rw [toTy_congr _ _ fun id hid => ht.sim hm hid]; exact h3
      · simp only [eval_fail] at he
  · simp only [eval_fail] at he

theorem toArr_local {T : TypeId} {x : Operand} (hop : o.op = .sliceToArrayPointer T x) {s' : AS} (he : (toArrA P s o.dst T (s.ev x)).eval = some s') : LocA P Γ objs ops o s s' := by
  have hao : ∀ t, aop P Γ objs o t = toArrA P t o.dst T (t.ev x) := fun t => by unfold aop; rw [hop]
  have hm : x ∈ o.op.operands.toList := by rw [hop]; simp [Op.operands]
  unfold toArrA at he
  split at he
  · rename_i n e hT
    split at he
    · rename_i ty hty
      obtain ⟨h1, h2⟩ := eval_guard.1 he
      obtain ⟨l, h3, h4⟩ := eval_bind.1 h2
      obtain ⟨h5, h6⟩ := eval_chk.1 h4
      obtain rfl := eval_ok.1 h6
      refine loc_frz (fun id hid => ids_in hm (shared_ids _ _ hid)) fun t ht => ?_
      rw [hao, ht.ev hm]
      unfold toArrA
      simp only [hT, hty]
      refine eval_guard.2 ⟨h1, eval_bind.2 ⟨l, ?_, eval_chk.2 ⟨h5, eval_ok.2 rfl⟩⟩⟩
      rw [toTy_congr _ _ fun id hid => ht.sim hm hid]; exact h3
    · simp only [eval_fail] at he
  · simp only [eval_fail] at he

theorem build_local {T : TypeId} {parts : Array (Nat × Operand)} (hop : o.op = .build T parts) {s' : AS} (he : (buildA P s o.dst T parts.toList).eval = some s') : LocA P Γ objs ops o s s' := by
  have hao : ∀ t, aop P Γ objs o t = buildA P t o.dst T parts.toList := fun t => by unfold aop; rw [hop]
  have hm : ∀ x ∈ parts.toList, x.2 ∈ o.op.operands.toList := fun x hx => by rw [hop]; exact part_mem hx
  unfold buildA at he
  split at he
  · rename_i fs hT
    split at he
    · rename_i z hz
      obtain ⟨h1, h2⟩ := eval_guard.1 he
      obtain ⟨v, h3, h4⟩ := eval_bind.1 h2
      obtain rfl := eval_ok.1 h4
      refine loc_put fun t ht => ?_
      rw [hao]
      unfold buildA
      simp only [hT, hz]
      refine eval_guard.2 ⟨h1, eval_bind.2 ⟨v, ?_, eval_ok.2 rfl⟩⟩
      rw [setFields_congr _ _ fun x hx => ht.ev (hm x hx)]; exact h3
    · simp only [eval_fail] at he
  · rename_i n e hT
    split at he
    · rename_i ty hty
      obtain ⟨h1, h2⟩ := eval_guard.1 he
      obtain ⟨r, h3, h4⟩ := eval_bind.1 h2
      obtain rfl := eval_ok.1 h4
      refine loc_frz (fun id hid => ?_) fun t ht => ?_
      · obtain ⟨x, hx, hi⟩ := setParts_shared _ _ _ h3 id hid
        exact ids_in (hm x hx) hi
      · rw [hao]
        unfold buildA
        simp only [hT, hty]
        refine eval_guard.2 ⟨h1, eval_bind.2 ⟨r, ?_, eval_ok.2 rfl⟩⟩
        rw [setParts_congr _ _ fun x hx => ⟨ht.ev (hm x hx), fun id hid => ht.sim (hm x hx) hid⟩]; exact h3
    · simp only [eval_fail] at he
  · simp only [eval_fail] at he

theorem buildSlice_local {T : TypeId} {n : Nat} {parts : Array (Nat × Operand)} (hop : o.op = .buildSlice T n parts) {s' : AS} (he : (buildSliceA P s (isObj objs o.dst) o.dst T n parts.toList).eval = some s') : LocA P Γ objs ops o s s' := by
  have hao : ∀ t, aop P Γ objs o t = buildSliceA P t (isObj objs o.dst) o.dst T n parts.toList := fun t => by unfold aop; rw [hop]
  have hm : ∀ x ∈ parts.toList, x.2 ∈ o.op.operands.toList := fun x hx => by rw [hop]; exact part_mem hx
  unfold buildSliceA at he
  split at he
  · rename_i e ty b q hel hd
    obtain ⟨h1, h2⟩ := eval_guard.1 he
    obtain ⟨r, h3, h4⟩ := eval_bind.1 h2
    have hsh : ∀ id ∈ r.2, id ∈ (foot Γ ops s o).rs := fun id hid => by
      obtain ⟨x, hx, hi⟩ := setParts_shared _ _ _ h3 id hid
      exact ids_in (hm x hx) hi
    have hco : ∀ t, Agree (foot Γ ops s o) s t → ∀ l, setParts ty t parts.toList l = setParts ty s parts.toList l := fun t ht l => setParts_congr _ _ fun x hx => ⟨ht.ev (hm x hx), fun id hid => ht.sim (hm x hx) hid⟩
    split at h4
    · rename_i ho
      obtain ⟨h5, h6⟩ := eval_guard.1 h4
      obtain rfl := eval_ok.1 h6
      refine loc_born hd h5 hsh fun t ht hv => ?_
      rw [hao]
      unfold buildSliceA
      simp only [hd] at ho hel ⊢
      simp only [hel, ho]
      refine eval_guard.2 ⟨h1, eval_bind.2 ⟨r, by rw [hco t ht]; exact h3, eval_guard.2 ⟨hv, eval_ok.2 rfl⟩⟩⟩
    · rename_i ho
      obtain rfl := eval_ok.1 h4
      refine loc_frz hsh fun t ht => ?_
      rw [hao]
      unfold buildSliceA
      simp only [hd] at ho hel ⊢
      simp only [hel, ho]
      exact eval_guard.2 ⟨h1, eval_bind.2 ⟨r, by rw [hco t ht]; exact h3, eval_ok.2 rfl⟩⟩
  · simp only [eval_fail] at he

theorem makeSlice_local {T : TypeId} {x y : Operand} (hop : o.op = .makeSlice T x y) {len cap : Int} (hx : (asInt (s.ev x)).eval = some len) (hy : (asInt (s.ev y)).eval = some cap) {s' : AS} (he : (makeSliceA P s o.dst T len cap).eval = some s') : LocA P Γ objs ops o s s' := by
  have hao : ∀ t, aop P Γ objs o t = (asInt (t.ev x)).bind fun l => (asInt (t.ev y)).bind fun c => makeSliceA P t o.dst T l c := fun t => by unfold aop; rw [hop]
  have hm : ∀ z, z = x ∨ z = y → z ∈ o.op.operands.toList := fun z hz => by rw [hop]; simpa [Op.operands] using hz
  unfold makeSliceA at he
  split at he
  · rename_i e ty b q hel hd
    obtain ⟨h1, h2⟩ := eval_guard.1 he
    obtain ⟨h3, h4⟩ := eval_chk.1 h2
    obtain rfl := eval_ok.1 h4
    refine loc_born (ids := []) hd h1 (fun _ h => by cases h) fun t ht hv => ?_
    rw [hao, ht.ev (hm x (.inl rfl)), ht.ev (hm y (.inr rfl))]
    refine eval_bind.2 ⟨len, hx, eval_bind.2 ⟨cap, hy, ?_⟩⟩
    unfold makeSliceA
    simp only [hel, hd]
    exact eval_guard.2 ⟨hv, eval_chk.2 ⟨h3, eval_ok.2 rfl⟩⟩
  · simp only [eval_fail] at he

theorem aop_local {s' : AS} (he : (aop P Γ objs o s).eval = some s') : LocA P Γ objs ops o s s' := by
  have he0 := he
  have one : ∀ x, o.op.operands = #[x] → ∀ t, Agree (foot Γ ops s o) s t → t.ev x = s.ev x ∧ ∀ id ∈ (s.ev x).ids, simO (t.ent id) (s.ent id) := fun x hx t ht =>
    have hm : x ∈ o.op.operands.toList := by rw [hx]; simp
    ⟨ht.ev hm, fun _ hid => ht.sim hm hid⟩
  unfold aop at he
  split at he
  · rename_i x hop
    obtain rfl := eval_ok.1 he
    refine loc_put fun t ht => ?_
    unfold aop
    rw [hop]
    simp only
    rw [(one x (by rw [hop]; rfl) t ht).1]; rfl
  · rename_i x hop
    obtain rfl := eval_ok.1 he
    refine loc_put fun t ht => ?_
    unfold aop
    rw [hop]
    simp only
    rw [(one x (by rw [hop]; rfl) t ht).1]; rfl
  · rename_i c x y hop
    refine loc_out (F := fun t => pickA (t.ev c) (t.ev x) (t.ev y)) (fun t => by unfold aop; rw [hop]) (fun t ht => ?_) he0
    rw [ht.ev (by rw [hop]; simp [Op.operands]), ht.ev (by rw [hop]; simp [Op.operands]), ht.ev (by rw [hop]; simp [Op.operands])]
  · rename_i T hop
    split at he
    · rename_i z q hz hq
      obtain ⟨h1, h2⟩ := eval_guard.1 he
      obtain rfl := eval_ok.1 h2
      simp only [Bool.and_eq_true] at h1
      refine loc_born (ids := []) hq h1.1 (fun _ h => by cases h) fun t ht hv => ?_
      unfold aop
      rw [hop]
      simp only [hz, hq]
      exact eval_guard.2 ⟨by simp [hv, h1.2], eval_ok.2 rfl⟩
    · exact (eval_fail.1 he).elim
  · rename_i T x hop
    exact box_local hop he
  · rename_i T parts hop
    exact build_local hop he
  · rename_i T n parts hop
    exact buildSlice_local hop he
  · rename_i T x hop
    refine loc_out (F := fun t => loadA P t T (t.ev x)) (fun t => by unfold aop; rw [hop]) (fun t ht => ?_) he0
    obtain ⟨h1, h2⟩ := one x (by rw [hop]; rfl) t ht
    rw [h1, loadA_congr h2]
  · rename_i T x v hop
    obtain ⟨s1, h1, h2⟩ := eval_bind.1 he
    obtain rfl := eval_ok.1 h2
    obtain ⟨id, e0, e, hid, hs, rfl, hl⟩ := storeA_local h1
    refine loc_set hs ?_ fun t ht hte => ?_
    · show id ∈ writes Γ s o
      unfold writes
      rw [hop]
      simp only [hid, List.mem_singleton]
    · unfold aop
      rw [hop]
      simp only
      rw [ht.ev (x := x) (by rw [hop]; simp [Op.operands]), ht.ev (x := v) (by rw [hop]; simp [Op.operands])]
      exact eval_bind.2 ⟨_, hl t hte, eval_ok.2 rfl⟩
  · rename_i x hop
    split at he
    · rename_i id v p n hx
      obtain rfl := eval_ok.1 he
      refine loc_put fun t ht => ?_
      unfold aop
      rw [hop]
      simp only [(one x (by rw [hop]; rfl) t ht).1, hx]; rfl
    · rename_i ty y hx
      obtain rfl := eval_ok.1 he
      refine loc_put fun t ht => ?_
      unfold aop
      rw [hop]
      simp only [(one x (by rw [hop]; rfl) t ht).1, hx]; rfl
    · rename_i f c hx
      obtain rfl := eval_ok.1 he
      refine loc_put fun t ht => ?_
      unfold aop
      rw [hop]
      simp only [(one x (by rw [hop]; rfl) t ht).1, hx]; rfl
    · exact (eval_fail.1 he).elim
  · rename_i op T x y U hop
    have hmx : x ∈ o.op.operands.toList := by rw [hop]; simp [Op.operands]
    have hmy : y ∈ o.op.operands.toList := by rw [hop]; simp [Op.operands]
    split at he
    · rename_i i v1 j v2 hx hy
      obtain ⟨v, h1, h2⟩ := eval_bind.1 he
      obtain rfl := eval_ok.1 h2
      refine loc_put fun t ht => ?_
      unfold aop
      rw [hop]
      simp only [ht.ev hmx, ht.ev hmy, hx, hy]
      exact eval_bind.2 ⟨v, by rw [eqP_congr (ht.sim hmx (by rw [hx]; simp [AVal.ids]))]; exact h1, rfl⟩
    · rename_i hne
      obtain ⟨v, h1, h2⟩ := eval_bind.1 he
      obtain rfl := eval_ok.1 h2
      refine loc_put fun t ht => ?_
      unfold aop
      rw [hop]
      simp only [ht.ev hmx, ht.ev hmy]
      exact eval_bind.2 ⟨v, h1, rfl⟩
  · rename_i op T x hop
    refine loc_out (F := fun t => unA op (t.ev x)) (fun t => by unfold aop; rw [hop]) (fun t ht => ?_) he0
    rw [(one x (by rw [hop]; rfl) t ht).1]
  · rename_i T U x hop
    split at he
    · rename_i id ver len hTU hx
      unfold convK at he
      split at he
      · rename_i v e0 l e hob hD
        split at he
        · rename_i hE
          obtain ⟨h1, h2⟩ := eval_guard.1 he
          obtain ⟨h3, h4⟩ := eval_chk.1 h2
          obtain rfl := eval_ok.1 h4
          refine loc_set (obj_some hob) ?_ fun t ht hte => ?_
          · show id ∈ writes Γ s o
            unfold writes
            rw [hop]
            simp only [hTU, hx]
            simp [AVal.ids]
          · have hob' : t.obj id = some (v, false, .vec e0 (.int .u8) l) := by simp only [AS.obj, hte]; exact hob
            unfold aop
            rw [hop]
            simp only [hTU, (one x (by rw [hop]; rfl) t ht).1, hx]
            unfold convK
            simp only [hob', hD, hE]
            exact eval_guard.2 ⟨h1, eval_chk.2 ⟨h3, eval_ok.2 rfl⟩⟩
        · exact (eval_fail.1 he).elim
      · exact (eval_fail.1 he).elim
    · rename_i id ver hx
      obtain ⟨v, h1, h2⟩ := eval_bind.1 he
      obtain rfl := eval_ok.1 h2
      refine loc_put fun t ht => ?_
      obtain ⟨h3, h4⟩ := one x (by rw [hop]; rfl) t ht
      unfold aop
      rw [hop]
      simp only [h3, hx]
      exact eval_bind.2 ⟨v, by rw [convP_congr (h4 _ (by rw [hx]; simp [AVal.ids]))]; exact h1, rfl⟩
    · rename_i hne
      obtain ⟨v, h1, h2⟩ := eval_bind.1 he
      obtain rfl := eval_ok.1 h2
      refine loc_put fun t ht => ?_
      obtain ⟨h3, h4⟩ := one x (by rw [hop]; rfl) t ht
      unfold aop
      rw [hop]
      simp only [h3]
      exact eval_bind.2 ⟨v, by rw [convA_congr h4]; exact h1, rfl⟩
  · rename_i T x hop
    exact toArr_local hop he
  · rename_i f first caps hop
    obtain ⟨h1, h2⟩ := eval_guard.1 he
    obtain rfl := eval_ok.1 h2
    refine loc_put fun t ht => ?_
    have hc : capsOf t caps.toList = capsOf s caps.toList := capsOf_congr _ fun x hx => ht.ev (by rw [hop]; simp only [Op.operands, Array.toList_append]; exact List.mem_append.2 (.inr hx))
    unfold aop
    rw [hop]
    simp only [hc]
    exact eval_guard.2 ⟨h1, eval_ok.2 rfl⟩
  · rename_i T l c hop
    obtain ⟨n, h1, h2⟩ := eval_bind.1 he
    obtain ⟨m, h3, h4⟩ := eval_bind.1 h2
    exact makeSlice_local hop h1 h3 h4
  · rename_i T x lo hi hop
    refine loc_out (F := fun t => sliceA P t T (t.ev x) lo hi) (fun t => by unfold aop; rw [hop]) (fun t ht => ?_) he0
    have hm : ∀ z, (z = x ∨ lo = some z ∨ hi = some z) → z ∈ o.op.operands.toList := fun z hz => by
      rw [hop]
      simp only [Op.operands, Array.toList_append, List.mem_append]
      rcases hz with rfl | rfl | rfl
      · left; left; left; simp
      · left; left; right; simp
      · left; right; simp
    have hx := hm x (.inl rfl)
    rw [ht.ev hx]
    exact sliceA_congr (fun id hid => ht.sim hx hid) (fun y hy => ht.ev (hm y (.inr (.inl hy)))) (fun y hy => ht.ev (hm y (.inr (.inr hy))))
  · rename_i T x f hop
    refine loc_out (F := fun t => fieldAddrA P T (t.ev x) f) (fun t => by unfold aop; rw [hop]) (fun t ht => ?_) he0
    rw [(one x (by rw [hop]; rfl) t ht).1]
  · rename_i T x f hop
    refine loc_out (F := fun t => fieldA P T (t.ev x) f) (fun t => by unfold aop; rw [hop]) (fun t ht => ?_) he0
    rw [(one x (by rw [hop]; rfl) t ht).1]
  · rename_i T x i hop
    refine loc_out (F := fun t => (asInt (t.ev i)).bind fun i => indexAddrA P t T (t.ev x) i) (fun t => by unfold aop; rw [hop, Out.bind_assoc]) (fun t ht => ?_) he0
    have hx : x ∈ o.op.operands.toList := by rw [hop]; simp [Op.operands]
    rw [ht.ev (x := i) (by rw [hop]; simp [Op.operands]), ht.ev hx]
    congr 1
    funext i
    exact indexAddrA_congr fun id hid => ht.sim hx hid
  · rename_i T x i hop
    refine loc_out (F := fun t => (asInt (t.ev i)).bind fun i => indexA P T (t.ev x) i) (fun t => by unfold aop; rw [hop, Out.bind_assoc]) (fun t ht => ?_) he0
    rw [ht.ev (x := i) (by rw [hop]; simp [Op.operands]), ht.ev (x := x) (by rw [hop]; simp [Op.operands])]
  · rename_i x i hop
    refine loc_out (F := fun t => Out.opt ((t.ev x).list[i]?)) (fun t => by unfold aop; rw [hop]) (fun t ht => ?_) he0
    rw [(one x (by rw [hop]; rfl) t ht).1]
  · rename_i c hop
    obtain ⟨cal, args, tys⟩ := c
    simp only at he
    split at he
    · split at he
      · rename_i x T ha ht'
        refine loc_out (F := fun t => lenA P T (t.ev x)) (fun t => by unfold aop; rw [hop]; simp only [ha, ht']) (fun t ht => ?_) he0
        rw [ht.ev (by rw [hop]; simp only [Op.operands, Call.operands, List.nil_append, Array.toList_append, ha]; simp)]
      · exact (eval_fail.1 he).elim
    · split at he
      · rename_i x y T X ha ht'
        have hmx : x ∈ o.op.operands.toList := by rw [hop]; simp only [Op.operands, Call.operands, List.nil_append, Array.toList_append, ha]; simp
        have hmy : y ∈ o.op.operands.toList := by rw [hop]; simp only [Op.operands, Call.operands, List.nil_append, Array.toList_append, ha]; simp
        split at he
        · rename_i k n hx hy
          have he1 := he
          unfold growA at he1
          split at he1
          · rename_i e t0 b q kn hel hd hX
            obtain ⟨h1, h2⟩ := eval_guard.1 he1
            obtain ⟨h3, h4⟩ := eval_chk.1 h2
            obtain rfl := eval_ok.1 h4
            refine loc_born (ids := []) hd h1 (fun _ h => by cases h) fun t ht hv => ?_
            unfold aop
            rw [hop]
            simp only [ha, ht', ht.ev hmx, ht.ev hmy, hx, hy]
            unfold growA
            simp only [hel, hd, hX]
            exact eval_guard.2 ⟨hv, eval_chk.2 ⟨h3, eval_ok.2 rfl⟩⟩
          · exact (eval_fail.1 he1).elim
        · rename_i hne
          exact append_local hop rfl ha ht' hne he
      · exact (eval_fail.1 he).elim
    · split at he
      · rename_i x T ha ht'
        have hmx : x ∈ o.op.operands.toList := by rw [hop]; simp only [Op.operands, Call.operands, List.nil_append, Array.toList_append, ha]; simp
        split at he
        · rename_i e hx hT
          obtain rfl := eval_ok.1 he
          refine loc_put fun t ht => ?_
          unfold aop
          rw [hop]
          simp only [ha, ht', ht.ev hmx, hx, hT]; rfl
        · exact (eval_fail.1 he).elim
      · exact (eval_fail.1 he).elim
    · refine loc_out (F := fun t => minA true (args.toList.map t.ev)) (fun t => by unfold aop; rw [hop]) (fun t ht => ?_) he0
      congr 1
      exact List.map_congr_left fun x hx => ht.ev (by rw [hop]; simp only [Op.operands, Call.operands, List.nil_append, Array.toList_append]; exact hx)
    · refine loc_out (F := fun t => minA false (args.toList.map t.ev)) (fun t => by unfold aop; rw [hop]) (fun t ht => ?_) he0
      congr 1
      exact List.map_congr_left fun x hx => ht.ev (by rw [hop]; simp only [Op.operands, Call.operands, List.nil_append, Array.toList_append]; exact hx)
    · split at he
      · rename_i x ha
        have hmx : x ∈ o.op.operands.toList := by rw [hop]; simp only [Op.operands, Call.operands, List.nil_append, Array.toList_append, ha]; simp
        split at he
        · rename_i id ver len hx
          obtain ⟨h1, h2⟩ := eval_chk.1 he
          obtain rfl := eval_ok.1 h2
          refine loc_put fun t ht => ?_
          unfold aop
          rw [hop]
          simp only [ha, ht.ev hmx, hx]
          exact eval_chk.2 ⟨h1, rfl⟩
        · exact (eval_fail.1 he).elim
      · exact (eval_fail.1 he).elim
    · split at he
      · rename_i x y T U ha ht'
        have hmx : x ∈ o.op.operands.toList := by rw [hop]; simp only [Op.operands, Call.operands, List.nil_append, Array.toList_append, ha]; simp
        have hmy : y ∈ o.op.operands.toList := by rw [hop]; simp only [Op.operands, Call.operands, List.nil_append, Array.toList_append, ha]; simp
        split at he
        · rename_i id ver n hx hy
          have he1 := he
          unfold textA at he1
          split at he1
          · rename_i v e l u hob hT
            obtain ⟨h1, h2⟩ := eval_guard.1 he1
            obtain ⟨h3, h4⟩ := eval_chk.1 h2
            obtain rfl := eval_ok.1 h4
            refine loc_set (obj_some hob) ?_ fun t ht hte => ?_
            · show id ∈ writes Γ s o
              unfold writes
              rw [hop]
              simp only [ha, hx]
              simp [AVal.ids]
            · have hob' : t.obj id = some (v, false, .vec e (.int .u8) l) := by simp only [AS.obj, hte]; exact hob
              unfold aop
              rw [hop]
              simp only [ha, ht', ht.ev hmx, ht.ev hmy, hx, hy]
              unfold textA
              simp only [hob', hT]
              exact eval_guard.2 ⟨h1, eval_chk.2 ⟨h3, eval_ok.2 rfl⟩⟩
          · exact (eval_fail.1 he1).elim
        · exact (eval_fail.1 he).elim
      · exact (eval_fail.1 he).elim
    · rename_i F _
      split at he
      · rename_i f caps hF
        split at he
        · rename_i en hen
          exact call_local hop rfl hF hen he
        · exact (eval_fail.1 he).elim
      · exact (eval_fail.1 he).elim
    · exact (eval_fail.1 he).elim
  · exact (eval_fail.1 he).elim

end
end Go.Ab
