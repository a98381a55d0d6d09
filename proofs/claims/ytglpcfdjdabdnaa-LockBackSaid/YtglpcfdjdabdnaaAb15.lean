/-
  The abstract machine, a part.
-/
import Derived.Test.YtglpcfdjdabdnaaAb13

/-
  References by other names; what is known of a function; calls.
-/
namespace Go.Ab

/-! ### Renaming -/

abbrev Ren := Id → Nat → Option (Id × Nat)

structure RenLe (ρ : Ren) (E E' : Env) : Prop where
  mem : MemLe E E'
  ref : ∀ id ver r, ρ id ver = some r → E.bnd id ver → E'.bnd r.1 r.2 ∧ (E'.cur r.1 r.2 → E.cur id ver ∧ E'.β r.1 = E.β id)

theorem ren_agg (ρ : Ren) (a : AVal) : (a.ren ρ).agg = a.agg := by
  cases a with
  | ptr id v p n => simp only [AVal.ren]; cases ρ id v <;> rfl
  | sref id v p c i l => simp only [AVal.ren]; cases ρ id v <;> rfl
  | _ => rfl

mutual
theorem V_ren {ρ : Ren} {E E' : Env} (h : RenLe ρ E E') : ∀ {a : AVal} {cs : List Value}, V E a cs → V E' (a.ren ρ) cs
  | .undef, _, hv => by simp only [V] at hv
  | .gone, _, hv => by simpa only [AVal.ren, V] using hv
  | .nils, _, hv => by simpa only [AVal.ren, V] using hv
  | .nilp, _, hv => by simpa only [AVal.ren, V] using hv
  | .nilf, _, hv => by simpa only [AVal.ren, V] using hv
  | .nilm, _, hv => by simpa only [AVal.ren, V] using hv
  | .sb l, _, hv => by
    simp only [AVal.ren, V] at hv ⊢
    obtain ⟨b, cap, arr, e, h1, h2, h3, h4, h5⟩ := hv
    obtain ⟨h6, h7⟩ := h.mem.fz b _ h3 h4
    exact ⟨b, cap, arr, e, h1, h2, h6, h7, h5⟩
  | .d t x, _, hv => by simp only [AVal.ren, V] at hv ⊢; exact hv.mono h.mem
  | .pr a b, _, hv => by
    simp only [AVal.ren, V] at hv ⊢
    obtain ⟨ca, cb, e, ha, hb⟩ := hv
    exact ⟨ca, cb, e, V_ren h ha, V_ren h hb⟩
  | .ptr id ver p n, _, hv => by
    have h1 := hv.one
    simp only [AVal.ren]
    cases hr : ρ id ver with
    | none =>
      simp only [V] at hv ⊢
      obtain ⟨a, e, _⟩ := hv
      exact ⟨_, e, h1 _ (by simp [e])⟩
    | some r =>
      simp only [V] at hv ⊢
      obtain ⟨a, e, hb, hc⟩ := hv
      obtain ⟨b1, b2⟩ := h.ref id ver r hr hb
      refine ⟨a, e, b1, fun c => ?_⟩
      obtain ⟨c1, e1⟩ := b2 c
      rw [e1]; exact hc c1
  | .rptr t x, _, hv => by
    simp only [AVal.ren, V] at hv ⊢
    obtain ⟨b, off, vs, e, hr, hx⟩ := hv
    exact ⟨b, off, vs, e, hr.mono h.mem, hx.mono h.mem⟩
  | .sref id ver p c i len, _, hv => by
    have h1 := hv.one
    simp only [AVal.ren]
    cases hr : ρ id ver with
    | none =>
      simp only [V] at hv ⊢
      obtain ⟨a, cap, e, _⟩ := hv
      exact ⟨_, e, h1 _ (by simp [e])⟩
    | some r =>
      simp only [V] at hv ⊢
      obtain ⟨a, cap, e, hl, hs, hb, hc⟩ := hv
      obtain ⟨b1, b2⟩ := h.ref id ver r hr hb
      refine ⟨a, cap, e, hl, hs, b1, fun c => ?_⟩
      obtain ⟨c1, e1⟩ := b2 c
      rw [e1]; exact hc c1
  | .fn f c, _, hv => by
    simp only [AVal.ren, V] at hv ⊢
    obtain ⟨vs, e, hc⟩ := hv
    exact ⟨vs, e, VC_ren h hc⟩
  | .cons _ _, _, hv => by simp only [V] at hv
  | .nil, _, hv => by simp only [V] at hv
  | .vec .., _, hv => by simp only [V] at hv
  | .bx .., _, hv => by simp only [V] at hv
theorem VC_ren {ρ : Ren} {E E' : Env} (h : RenLe ρ E E') : ∀ {a : AVal} {vs : List Value}, VC E a vs → VC E' (a.ren ρ) vs
  | .nil, _, hv => by simpa only [AVal.ren, VC] using hv
  | .cons a b, _, hv => by
    simp only [AVal.ren, VC] at hv ⊢
    obtain ⟨v, vs', cs, e, ha, ho, hb⟩ := hv
    exact ⟨v, vs', cs, e, V_ren h ha, by rw [ren_agg]; exact ho, VC_ren h hb⟩
  | .undef, _, hv => by simp only [VC] at hv
  | .gone, _, hv => by simp only [VC] at hv
  | .nils, _, hv => by simp only [VC] at hv
  | .nilp, _, hv => by simp only [VC] at hv
  | .nilf, _, hv => by simp only [VC] at hv
  | .nilm, _, hv => by simp only [VC] at hv
  | .sb _, _, hv => by simp only [VC] at hv
  | .d t x, _, hv => by simp only [VC] at hv
  | .pr a b, _, hv => by simp only [VC] at hv
  | .ptr .., _, hv => by simp only [VC] at hv
  | .rptr .., _, hv => by simp only [VC] at hv
  | .sref .., _, hv => by simp only [VC] at hv
  | .fn .., _, hv => by simp only [VC] at hv
  | .vec .., _, hv => by simp only [VC] at hv
  | .bx .., _, hv => by simp only [VC] at hv
end

theorem VS_ren {ρ : Ren} {E E' : Env} (h : RenLe ρ E E') {a : AVal} {v : Value} (hv : VS E a v) : VS E' (a.ren ρ) v := by
  by_cases hc : a.celled = true
  · obtain ⟨cs, h1, h2⟩ := hv.celled hc
    exact VS.of (V_ren h h1) (by rw [ren_agg]; exact h2)
  · cases a <;> first | (exact absurd rfl hc) | skip
    · trivial
    · obtain ⟨vs, e, hvc⟩ := hv
      have := VC_ren h hvc
      simp only [AVal.ren] at this ⊢
      exact ⟨vs, e, this⟩
    · exact hv
    · obtain ⟨cs, h1, _⟩ := hv
      simp only [V] at h1
    · obtain ⟨cs, h1, _⟩ := hv
      simp only [V] at h1

theorem ren_strip (ρ : Ren) (c : AVal) : (c.ren ρ).strip = c.strip.ren ρ := by
  cases c <;> first
    | rfl
    | (rename_i id ver p n; simp only [AVal.strip, AVal.ren]; cases ρ id ver <;> rfl)
    | (rename_i id ver p c i len; simp only [AVal.strip, AVal.ren]; cases ρ id ver <;> rfl)
theorem boxOk_ren (ρ : Ren) {c : AVal} {e : TypeId} (h : c.boxOk e) : (c.ren ρ).boxOk e := by
  cases c <;> first
    | exact h
    | trivial
    | (rename_i id ver p n; simp only [AVal.ren]; cases ρ id ver <;> trivial)
    | (rename_i id ver p c i len; simp only [AVal.ren]; cases ρ id ver <;> trivial)

theorem isVec_ren (ρ : Ren) {a : AVal} (h : a.isVec = false) : (a.ren ρ).isVec = false := by
  cases a <;> first | rfl | (simp [AVal.isVec] at h; done) | (simp only [AVal.ren]; split <;> rfl)

theorem ObjR_ren {ρ : Ren} {E E' : Env} (h : RenLe ρ E E') {id id' : Id} {fr : Bool} {c : AVal} (ho : ObjR E id fr c) (hβ : E'.β id' = E.β id)
    (hb : ∀ pl, E.β id = some pl → E'.w.heap[pl.b]? = E.w.heap[pl.b]? ∧ (∀ k, E.g pl.b = .own (.id id) k → E'.g pl.b = .own (.id id') k) ∧ (E.g pl.b = .free → E'.g pl.b = .free)) : ObjR E' id' fr (c.ren ρ) := by
  by_cases hn : c.isVec = false
  · obtain ⟨pl, cur, e, h1, h2, h3, h5, h4⟩ := ho.box hn
    obtain ⟨b1, b2, b3⟩ := hb pl h1
    have h6 := V_ren h h4
    refine BoxR.obj ⟨pl, cur, e, by rw [hβ, h1], by rw [b1, h2], ?_, boxOk_ren ρ h5, by rw [ren_strip]; exact h6⟩
    cases fr with
    | true => exact b3 h3
    | false => exact b2 0 h3
  · cases c <;> first
      | (exact absurd rfl hn)
      | skip
    rename_i e t l
    obtain ⟨hz, ho⟩ := ho
    refine ⟨hz, ?_⟩
    rw [hβ]
    cases hp : E.β id with
    | none => rw [hp] at ho; exact ho
    | some pl =>
      rw [hp] at ho
      simp only at ho ⊢
      obtain ⟨b1, b2, _⟩ := hb pl hp
      obtain ⟨cur, k, h1, h2, h3, h4, h5, h6, h7, h8⟩ := ho
      exact ⟨cur, k, by rw [b1, h1], h2, h3, h4, b2 k h5, h6, h7, h8.mono fun c x hx => hx.mono h.mem⟩

/-! ### What is known of a function -/

def VSs (E : Env) : List AVal → List Value → Prop
  | [], [] => True
  | a :: as, v :: vs => VS E a v ∧ VSs E as vs
  | _, _ => False

def GRes.st (G : GRes) : AS := { slots := [], olds := G.olds, news := [G.news] }
def lent (olds : List Ent) : AS := { slots := [], olds, news := [] }

def After (E : Env) (G : GRes) (v : Value) (w' : World) : Prop :=
  ∃ g' β', VS (G.st.env w' g' β') G.val v ∧ Objs (G.st.env w' g' β') ∧ Trans E.w w' E.g g' ∧ EnvLe E (G.st.env w' g' β')

/-- What an entry says of its function. -/
def Does (P : Program) (f : FuncId) (en : Entry) : Prop :=
  ∀ w g β args olds vals x, VSs ((lent olds).env w g β) args vals → Objs ((lent olds).env w g β) → en.run args olds = some x →
    ((callFunc f vals.toArray).run P w = .ok (.enter f vals.toArray) w ∧
      Calls P f vals.toArray w fun e w' => ∃ v, e = .returned v ∧ After ((lent olds).env w g β) (en.out args olds x) v w') ∨
    (∃ v w', (callFunc f vals.toArray).run P w = .ok (.value v) w' ∧ After ((lent olds).env w g β) (en.out args olds x) v w')

def Sound (P : Program) (Γ : Gam) : Prop := ∀ f vs en, Γ f vs = some en → Does P f en

/-! ### Arguments -/

theorem VSs.mono {E E' : Env} (h : EnvLe E E') : ∀ {as : List AVal} {vs : List Value}, VSs E as vs → VSs E' as vs
  | [], [], _ => trivial
  | _ :: _, _ :: _, ⟨h1, h2⟩ => ⟨h1.mono h, VSs.mono h h2⟩

theorem VSs.ren {ρ : Ren} {E E' : Env} (h : RenLe ρ E E') : ∀ {as : List AVal} {vs : List Value}, VSs E as vs → VSs E' (as.map (AVal.ren ρ)) vs
  | [], [], _ => trivial
  | _ :: _, _ :: _, ⟨h1, h2⟩ => ⟨VS_ren h h1, VSs.ren h h2⟩

theorem VSs.append {E : Env} : ∀ {as : List AVal} {vs : List Value} {bs : List AVal} {us : List Value}, VSs E as vs → VSs E bs us → VSs E (as ++ bs) (vs ++ us)
  | [], [], _, _, _, h => h
  | _ :: _, _ :: _, _, _, ⟨h1, h2⟩, h => ⟨h1, VSs.append h2 h⟩

theorem VC_VSs {E : Env} : ∀ {c : AVal} {vs : List Value}, VC E c vs → VSs E c.list vs
  | .cons a b, vs, h => by
    simp only [VC] at h
    obtain ⟨v, vs', cs, rfl, ha, ho, hb⟩ := h
    exact ⟨VS.of ha ho, VC_VSs hb⟩
  | .nil, vs, h => by
    simp only [VC] at h
    subst h
    trivial
  | .undef, _, hv => by simp only [VC] at hv
  | .gone, _, hv => by simp only [VC] at hv
  | .nils, _, hv => by simp only [VC] at hv
  | .nilp, _, hv => by simp only [VC] at hv
  | .nilf, _, hv => by simp only [VC] at hv
  | .nilm, _, hv => by simp only [VC] at hv
  | .sb _, _, hv => by simp only [VC] at hv
  | .d t x, _, hv => by simp only [VC] at hv
  | .pr a b, _, hv => by simp only [VC] at hv
  | .ptr .., _, hv => by simp only [VC] at hv
  | .rptr .., _, hv => by simp only [VC] at hv
  | .sref .., _, hv => by simp only [VC] at hv
  | .fn .., _, hv => by simp only [VC] at hv
  | .vec .., _, hv => by simp only [VC] at hv
  | .bx .., _, hv => by simp only [VC] at hv

theorem Inv.evs {C : Ctx} {g : Nat → Lab} {β : Id → Option Pl} {s : AS} {a : Act} {w : World} (h : Inv C g β s a w) : ∀ l : List Operand, VSs (s.env w g β) (l.map s.ev) (l.map a.eval)
  | [] => trivial
  | x :: l => ⟨h.ev x, h.evs l⟩

/-- Data out of arguments. -/
theorem conv_rep {E E' : Env} {s : AS} (hs : E.s = s.ent) (ho : Objs E) (he : EnvLe E E') : ∀ (ps : List (Option Ty)) (vs : List AVal) (ys : List Value) (r : List AVal × List Id), VSs E vs ys → (s.conv ps vs).eval = some r → Frz E E' r.2 → VSs E' r.1 ys
  | [], [], ys, r, hv, h, _ => by
    simp only [AS.conv, eval_ok] at h
    subst h
    cases ys with
    | nil => trivial
    | cons _ _ => exact hv.elim
  | some t :: ps, v :: vs, y :: ys, r, ⟨hv, hvs⟩, h, hf => by
    simp only [AS.conv] at h
    obtain ⟨x, h1, h2⟩ := eval_bind.1 h
    obtain ⟨r', h3, h4⟩ := eval_bind.1 h2
    obtain rfl := eval_ok.1 h4
    obtain ⟨cs, hV, hO⟩ := hv.celled (toTy_celled h1)
    refine ⟨VS.of (cs := cs) ?_ ?_, conv_rep hs ho he ps vs ys r' hvs h3 fun id hid => hf id (List.mem_append.2 (.inr hid))⟩
    · simp only [V]
      exact toTy_rep hs ho he v t x cs hV h1 fun id hid => hf id (List.mem_append.2 (.inl hid))
    · show OfCells t.agg cs y
      rw [← toTy_agg h1]; exact hO
  | none :: ps, v :: vs, y :: ys, r, ⟨hv, hvs⟩, h, hf => by
    simp only [AS.conv] at h
    obtain ⟨r', h3, h4⟩ := eval_bind.1 h
    obtain rfl := eval_ok.1 h4
    exact ⟨hv.mono he, conv_rep hs ho he ps vs ys r' hvs h3 hf⟩
  | [], _ :: _, _, _, _, h, _ => by simp only [AS.conv, eval_fail] at h
  | some _ :: _, [], _, _, _, h, _ => by simp only [AS.conv, eval_fail] at h
  | none :: _, [], _, _, _, h, _ => by simp only [AS.conv, eval_fail] at h

end Go.Ab

/-
  Calls: what a state is behind one.
-/
namespace Go.Ab

theorem idxOf_some {id : Id} : ∀ {ids : List Id} {k : Nat}, idxOf id ids = some k → ids[k]? = some id
  | [], _, h => by simp [idxOf] at h
  | x :: xs, k, h => by
    simp only [idxOf] at h
    split at h
    · rename_i e
      simp only [Option.some.injEq] at h
      subst h e
      rfl
    · simp only [Option.map_eq_some_iff] at h
      obtain ⟨j, hj, rfl⟩ := h
      simpa using idxOf_some hj

theorem idxOf_nodup {id : Id} : ∀ {ids : List Id} {k : Nat}, ids.Nodup → ids[k]? = some id → idxOf id ids = some k
  | [], _, _, h => by simp at h
  | x :: xs, 0, hn, h => by
    simp only [List.getElem?_cons_zero, Option.some.injEq] at h
    simp [idxOf, h]
  | x :: xs, k + 1, hn, h => by
    simp only [List.getElem?_cons_succ] at h
    obtain ⟨h1, h2⟩ := List.nodup_cons.1 hn
    have hne : x ≠ id := fun e => h1 (e ▸ List.mem_of_getElem? h)
    simp [idxOf, hne, idxOf_nodup h2 h]

theorem idxOf_none {id : Id} : ∀ {ids : List Id}, idxOf id ids = none → id ∉ ids
  | [], _ => by simp
  | x :: xs, h => by
    simp only [idxOf] at h
    split at h
    · cases h
    · rename_i hne
      simp only [Option.map_eq_none_iff] at h
      simp only [List.mem_cons, not_or]
      exact ⟨fun e => hne e.symm, idxOf_none h⟩

theorem slots_setEnts (s0 : AS) (all : List Id) (t : Nat) : ∀ (ids : List Id) (es : List Ent) (s : AS), (AS.setEnts s0 all t s ids es).slots = s.slots
  | [], _, _ => by simp [AS.setEnts]
  | _ :: _, [], _ => by simp [AS.setEnts]
  | id :: ids, e :: es, s => by rw [AS.setEnts, slots_setEnts s0 all t ids es, slots_setEnt]

theorem slots_made (s : AS) (ids : List Id) (t : Nat) (es : List Ent) : (s.made ids t es).slots = s.slots := by cases es <;> rfl

theorem ent_setEnts (s0 : AS) (all : List Id) (t : Nat) : ∀ (ids : List Id) (es : List Ent) (s : AS), ids.Nodup → es.length = ids.length → (∀ id ∈ ids, s.ent id ≠ none) →
    (∀ id, id ∉ ids → (AS.setEnts s0 all t s ids es).ent id = s.ent id) ∧
    ∀ (k : Nat) (id : Id) (e : Ent), ids[k]? = some id → es[k]? = some e → (AS.setEnts s0 all t s ids es).ent id = some (s0.entOut all t (s0.verOf id) e)
  | [], es, s, _, _, _ => ⟨fun _ _ => by simp [AS.setEnts], fun k id e h => by simp at h⟩
  | _ :: _, [], s, _, hl, _ => by simp at hl
  | i :: ids, e :: es, s, hn, hl, hp => by
    obtain ⟨h1, h2⟩ := List.nodup_cons.1 hn
    have hp' : ∀ id ∈ ids, (s.setEnt i (s0.entOut all t (s0.verOf i) e)).ent id ≠ none := fun id hid => by
      rw [ent_setEnt_other s i id _ (fun e => h1 (e ▸ hid))]
      exact hp id (List.mem_cons_of_mem _ hid)
    obtain ⟨r1, r2⟩ := ent_setEnts s0 all t ids es (s.setEnt i (s0.entOut all t (s0.verOf i) e)) h2 (by simpa using hl) hp'
    rw [AS.setEnts]
    refine ⟨fun id hid => ?_, fun k id e' hk he => ?_⟩
    · simp only [List.mem_cons, not_or] at hid
      rw [r1 id hid.2, ent_setEnt_other s i id _ hid.1]
    · cases k with
      | zero =>
        simp only [List.getElem?_cons_zero, Option.some.injEq] at hk he
        subst hk he
        rw [r1 i h1, ent_setEnt_self s i _ (hp i (List.mem_cons_self ..))]
      | succ k =>
        simp only [List.getElem?_cons_succ] at hk he
        exact r2 k id e' hk he

theorem ent_made (s : AS) (ids : List Id) (t : Nat) (es : List Ent) (hv : es = [] ∨ s.virgin t = true) :
    (∀ id, (es = [] ∨ ∀ j, id ≠ .new t j) → (s.made ids t es).ent id = s.ent id) ∧ (es ≠ [] → ∀ j, (s.made ids t es).ent (.new t j) = (es[j]?).map (s.entOut ids t 0)) := by
  cases es with
  | nil => exact ⟨fun _ _ => rfl, fun h => absurd rfl h⟩
  | cons e es =>
    have hv : s.virgin t = true := by rcases hv with h | h; · cases h
                                      · exact h
    refine ⟨fun id h => ?_, fun _ j => ?_⟩
    · rcases h with h | h
      · cases h
      · exact ent_born_other _ h
    · rw [AS.made, ent_born_new (virgin_ent hv).2, List.getElem?_map]

def labIn (ids : List Id) : Lab → Lab
  | .free => .free
  | .own .foreign n => .own .foreign n
  | .own (.id i) n => match idxOf i ids with | some k => .own (.id (.old k)) n | none => .own .foreign n

def placeIn (β : Id → Option Pl) (ids : List Id) : Id → Option Pl
  | .old k => (ids[k]?).bind β
  | .new _ _ => none

def labOut (g : Nat → Lab) (size : Nat) (ids : List Id) (t : Nat) (b : Nat) : Lab → Lab
  | .free => .free
  | .own .foreign n => if b < size then g b else .own .foreign n
  | .own (.id i) n => .own (.id (idOut ids t i)) n

def placeOut (β β' : Id → Option Pl) (ids : List Id) (t : Nat) (some? : Bool) (id : Id) : Option Pl :=
  match idxOf id ids with
  | some k => β' (.old k)
  | none => match id with
    | .new i j => if i = t ∧ some? = true then β' (.new 0 j) else β (.new i j)
    | id => β id

theorem labIn_ok {ids : List Id} {l : Lab} {off : Nat} (h : okAt (fun _ => l) 0 off) : okAt (fun _ => labIn ids l) 0 off := by
  cases l with
  | free => trivial
  | own o k => cases o with
    | foreign => exact h
    | id i => simp only [labIn]; cases idxOf i ids <;> exact h

section
variable {P : Program} {C : Ctx} {g : Nat → Lab} {β : Id → Option Pl} {s : AS} {a : Act} {w : World} {o : Oper}

/-- What the callee is handed. -/
theorem in_le (ids : List Id) :
    RenLe (s.refIn ids) (s.env w g β) ((lent (ids.map (s.entIn ids))).env w (fun b => labIn ids (g b)) (placeIn β ids)) := by
  refine ⟨⟨fun b off v ⟨h1, h2⟩ => ⟨h1, ?_⟩, fun b ob h1 h2 => ⟨by show labIn ids (g b) = .free; have h1 : g b = .free := h1; rw [h1]; rfl, h2⟩⟩, fun id ver r hr _ => ?_⟩
  · exact labIn_ok (l := g b) h2
  · unfold AS.refIn at hr
    split at hr
    · rename_i k v fr c hk ho
      split at hr
      · rename_i hver
        simp only [Option.some.injEq] at hr
        subst hr hver
        have hid := idxOf_some hk
        have hent := obj_some ho
        refine ⟨⟨?_, fun _ _ _ _ => Nat.zero_le _⟩, fun _ => ⟨⟨fr, c, hent⟩, ?_⟩⟩
        · show (ids.map (s.entIn ids))[k]? ≠ none
          simp [hid]
        · show (ids[k]?).bind β = β id
          rw [hid]; rfl
      · cases hr
    · cases hr

theorem in_objs (ids : List Id) (hn : ids.Nodup) (h : Objs (s.env w g β)) : Objs ((lent (ids.map (s.entIn ids))).env w (fun b => labIn ids (g b)) (placeIn β ids)) := by
  intro id ver fr c hid
  have hid : (lent (ids.map (s.entIn ids))).ent id = some (.obj ver fr c) := hid
  cases id with
  | new i j => simp [lent, AS.ent] at hid
  | old k =>
    simp only [lent, AS.ent, List.getElem?_map, Option.map_eq_some_iff] at hid
    obtain ⟨id1, hk, he⟩ := hid
    unfold AS.entIn at he
    split at he
    · rename_i v fr1 c1 hent
      simp only [Ent.obj.injEq] at he
      obtain ⟨rfl, rfl, rfl⟩ := he
      refine ObjR_ren (in_le ids) (h id1 v fr1 c1 hent) (by show (ids[k]?).bind β = β id1; rw [hk]; rfl) fun pl hp => ⟨rfl, fun n hg => ?_, fun hg => ?_⟩
      · have hg : g pl.b = .own (.id id1) n := hg
        show labIn ids (g pl.b) = _
        rw [hg]
        simp [labIn, idxOf_nodup hn hk]
      · have hg : g pl.b = .free := hg
        show labIn ids (g pl.b) = _
        rw [hg]; rfl
    · cases he

/-- What the caller has behind a call. -/
theorem back_sound (h : Inv C g β s a w) {ids : List Id} (hn : ids.Nodup) (hp : ∀ id ∈ ids, ∃ r, s.obj id = some r) {G : GRes} {t : Nat} (hl : G.olds.length = ids.length) (hv : G.news = [] ∨ s.virgin t = true) {v : Value} {w' : World}
    (ha : After ((lent (ids.map (s.entIn ids))).env w (fun b => labIn ids (g b)) (placeIn β ids)) G v w') :
    ∃ g' β', Inv C g' β' (AS.setEnts s ids t (s.made ids t G.news) ids G.olds) a w' ∧ VS ((AS.setEnts s ids t (s.made ids t G.news) ids G.olds).env w' g' β') (G.val.ren (s.refOut ids t)) v := by
  obtain ⟨g1, β1, hval, hobjs, htr, hle⟩ := ha
  have htr : Trans w w' (fun b => labIn ids (g b)) g1 := htr
  obtain ⟨m1, m2⟩ := ent_made s ids t G.news hv
  have hpe : ∀ id ∈ ids, s.ent id ≠ none := fun id hid => by
    obtain ⟨⟨v, fr, c⟩, hr⟩ := hp id hid
    rw [obj_some hr]; simp
  have hnew : ∀ id, s.ent id ≠ none → G.news = [] ∨ ∀ j, id ≠ .new t j := fun id hid => by
    rcases hv with hv | hv
    · exact .inl hv
    · exact .inr fun j e => hid (by rw [e]; exact (virgin_ent hv).1 j)
  obtain ⟨n1, n2⟩ := ent_setEnts s ids t ids G.olds (s.made ids t G.news) hn hl (fun id hid => by rw [m1 id (hnew id (hpe id hid))]; exact hpe id hid)
  have hvt : ∀ j, G.news ≠ [] → Id.new t j ∉ ids := fun j hne hid => by
    rcases hv with hv | hv
    · exact hne hv
    · exact hpe _ hid ((virgin_ent hv).1 j)
  -- the ids behind the call
  generalize hs2 : AS.setEnts s ids t (s.made ids t G.news) ids G.olds = s2 at *
  have hgO : ∀ (k : Nat) (id : Id), ids[k]? = some id → ∃ e, G.olds[k]? = some e ∧ s2.ent id = some (s.entOut ids t (s.verOf id) e) := fun k id hk => by
    have hlt : k < G.olds.length := by rw [hl]; exact (List.getElem?_eq_some_iff.1 hk).1
    exact ⟨_, List.getElem?_eq_getElem hlt, n2 k id _ hk (List.getElem?_eq_getElem hlt)⟩
  have hgN : G.news ≠ [] → ∀ j, s2.ent (.new t j) = (G.news[j]?).map (s.entOut ids t 0) := fun hne j => by
    rw [n1 _ (hvt j hne), m2 hne j]
  have hgS : ∀ id, id ∉ ids → (G.news = [] ∨ ∀ j, id ≠ .new t j) → s2.ent id = s.ent id := fun id h1 h2 => by
    rw [n1 id h1, m1 id h2]
  have hverOf : ∀ id ∈ ids, ∃ fr c, s.ent id = some (.obj (s.verOf id) fr c) := fun id hid => by
    obtain ⟨⟨v, fr, c⟩, hr⟩ := hp id hid
    refine ⟨fr, c, ?_⟩
    rw [obj_some hr]
    simp [AS.verOf, hr]
  -- labels
  have hfor : ∀ b n, b < w.heap.size → g1 b = .own .foreign n → (g b = .own .foreign n ∨ ∃ i, g b = .own (.id i) n ∧ idxOf i ids = none) := fun b n hb hg => by
    have h1 := htr.blk b hb
    cases hgb : g b with
    | free => simp only [hgb, labIn] at h1; rw [h1.1] at hg; cases hg
    | own o k => cases o with
      | foreign => simp only [hgb, labIn] at h1; rw [h1.1] at hg; left; exact hg
      | id i =>
        cases hi : idxOf i ids with
        | none =>
          simp only [hgb, labIn, hi] at h1
          rw [h1.1] at hg
          simp only [Lab.own.injEq, true_and] at hg
          subst hg
          exact .inr ⟨i, rfl, hi⟩
        | some k' =>
          simp only [hgb, labIn, hi] at h1
          rcases h1.1 with h2 | ⟨_, _, h2, _⟩ <;> (rw [h2] at hg; cases hg)
  let g2 : Nat → Lab := fun b => labOut g w.heap.size ids t b (g1 b)
  let β2 : Id → Option Pl := placeOut β β1 ids t (!G.news.isEmpty)
  have hβO : ∀ k id, ids[k]? = some id → β2 id = β1 (.old k) := fun k id hk => by
    show placeOut _ _ _ _ _ id = _
    simp [placeOut, idxOf_nodup hn hk]
  have hβN : G.news ≠ [] → ∀ j, β2 (.new t j) = β1 (.new 0 j) := fun hne j => by
    show placeOut _ _ _ _ _ _ = _
    have : idxOf (.new t j) ids = none := by
      cases hi : idxOf (.new t j) ids with
      | none => rfl
      | some k => exact absurd (List.mem_of_getElem? (idxOf_some hi)) (hvt j hne)
    have hne' : G.news.isEmpty = false := by cases hh : G.news with
      | nil => exact absurd hh hne
      | cons _ _ => rfl
    simp [placeOut, this, hne']
  have hβS : ∀ id, id ∉ ids → (G.news = [] ∨ ∀ j, id ≠ .new t j) → β2 id = β id := fun id h1 h2 => by
    show placeOut _ _ _ _ _ _ = _
    have : idxOf id ids = none := by
      cases hi : idxOf id ids with
      | none => rfl
      | some k => exact absurd (List.mem_of_getElem? (idxOf_some hi)) h1
    cases id with
    | old k => simp [placeOut, this]
    | new i j =>
      have : ¬ (i = t ∧ (!G.news.isEmpty) = true) := by
        rintro ⟨rfl, h3⟩
        rcases h2 with h2 | h2
        · rw [h2] at h3; cases h3
        · exact h2 j rfl
      simp only [placeOut, *, if_false]
  have htr2 : Trans w w' g g2 := by
    refine ⟨htr.os, htr.tape, htr.output, htr.size, fun b hb => ?_⟩
    have h1 := htr.blk b hb
    show match g b with | .free => labOut g w.heap.size ids t b (g1 b) = .free ∧ _ | .own .foreign k => labOut g w.heap.size ids t b (g1 b) = .own .foreign k ∧ _ | .own (.id _) k => (labOut g w.heap.size ids t b (g1 b) = .free ∨ ∃ i k', labOut g w.heap.size ids t b (g1 b) = .own (.id i) k' ∧ k ≤ k') ∧ _
    cases hgb : g b with
    | free => simp only [hgb, labIn] at h1 ⊢; rw [h1.1]; exact ⟨rfl, h1.2⟩
    | own o k => cases o with
      | foreign => simp only [hgb, labIn] at h1 ⊢; rw [h1.1]; simp only [labOut, hb, if_true, hgb]; exact ⟨trivial, h1.2⟩
      | id i =>
        cases hi : idxOf i ids with
        | none =>
          simp only [hgb, labIn, hi] at h1 ⊢
          rw [h1.1]
          simp only [labOut, hb, if_true, hgb]
          exact ⟨.inr ⟨i, k, rfl, Nat.le_refl _⟩, fun off v _ hv => by simpa only [World.cell?, h1.2] using hv⟩
        | some k' =>
          simp only [hgb, labIn, hi] at h1 ⊢
          refine ⟨?_, h1.2⟩
          rcases h1.1 with h2 | ⟨i', k'', h2, h3⟩
          · rw [h2]; exact .inl rfl
          · rw [h2]; exact .inr ⟨_, k'', rfl, h3⟩
  have hmem : MemLe (G.st.env w' g1 β1) (s2.env w' g2 β2) := by
    refine ⟨fun b off v ⟨h1, h2⟩ => ?_, fun b ob h1 h2 => ⟨by show labOut g w.heap.size ids t b (g1 b) = .free; have h1 : g1 b = .free := h1; rw [h1]; rfl, h2⟩⟩
    refine ⟨h1, ?_⟩
    have h2 : okAt g1 b off := h2
    show okAt g2 b off
    unfold okAt at h2 ⊢
    show match labOut g w.heap.size ids t b (g1 b) with | .free => True | .own _ k => off < k
    cases hgb : g1 b with
    | free => simp [labOut]
    | own o k =>
      rw [hgb] at h2
      cases o with
      | foreign =>
        simp only [labOut]
        by_cases hb : b < w.heap.size
        · rw [if_pos hb]
          rcases hfor b k hb hgb with h3 | ⟨i, h3, _⟩ <;> (rw [h3]; exact h2)
        · rw [if_neg hb]; exact h2
      | id i => exact h2
  have hentOut : ∀ (base : Nat) (e : Ent) (ver : Nat) (fr : Bool) (c : AVal), s.entOut ids t base e = .obj ver fr c → ∃ v0 c0, e = .obj v0 fr c0 ∧ ver = base + v0 ∧ c = c0.ren (s.refOut ids t) := fun base e ver fr c he => by
    cases e with
    | dead => cases he
    | obj v0 fr0 c0 =>
      simp only [AS.entOut, Ent.obj.injEq] at he
      obtain ⟨rfl, rfl, rfl⟩ := he
      exact ⟨v0, c0, rfl, rfl, rfl⟩
  have hout : RenLe (s.refOut ids t) (G.st.env w' g1 β1) (s2.env w' g2 β2) := by
    refine ⟨hmem, fun id ver r hr hb => ?_⟩
    cases id with
    | old k =>
      obtain ⟨hb1, hb2⟩ := hb
      have hb1 : G.olds[k]? ≠ none := hb1
      have hk : k < ids.length := by
        rcases Nat.lt_or_ge k ids.length with h' | h'
        · exact h'
        · exact absurd (List.getElem?_eq_none (by omega)) hb1
      have hid : ids[k]? = some ids[k] := List.getElem?_eq_getElem hk
      simp only [AS.refOut, hid, Option.some.injEq] at hr
      subst hr
      obtain ⟨e, he1, he2⟩ := hgO k _ hid
      refine ⟨⟨by show s2.ent _ ≠ none; rw [he2]; simp, fun v fr c hh => ?_⟩, fun ⟨fr, c, hh⟩ => ⟨?_, hβO k _ hid⟩⟩
      · have hh : s2.ent ids[k] = some (.obj v fr c) := hh
        rw [he2, Option.some.injEq] at hh
        obtain ⟨v0, c0, rfl, rfl, _⟩ := hentOut _ _ _ _ _ hh
        have := hb2 v0 fr c0 he1
        omega
      · have hh : s2.ent ids[k] = some (.obj (s.verOf ids[k] + ver) fr c) := hh
        rw [he2, Option.some.injEq] at hh
        obtain ⟨v0, c0, rfl, hv0, _⟩ := hentOut _ _ _ _ _ hh
        obtain rfl : ver = v0 := by omega
        exact ⟨fr, c0, he1⟩
    | new i j =>
      simp only [AS.refOut, Option.some.injEq] at hr
      subst hr
      obtain ⟨hb1, hb2⟩ := hb
      have hb1 : ([G.news].getD i [])[j]? ≠ none := hb1
      have hb2 : ∀ v fr c, ([G.news].getD i [])[j]? = some (.obj v fr c) → ver ≤ v := hb2
      cases i with
      | succ i => simp at hb1
      | zero =>
        simp only [List.getD_cons_zero] at hb1 hb2
        have hne : G.news ≠ [] := fun e => by rw [e] at hb1; simp at hb1
        obtain ⟨e, he⟩ := Option.ne_none_iff_exists'.1 hb1
        have he2 := hgN hne j
        rw [he, Option.map_some] at he2
        refine ⟨⟨by show s2.ent (.new t j) ≠ none; rw [he2]; simp, fun v fr c hh => ?_⟩, fun ⟨fr, c, hh⟩ => ⟨?_, hβN hne j⟩⟩
        · have hh : s2.ent (.new t j) = some (.obj v fr c) := hh
          rw [he2, Option.some.injEq] at hh
          obtain ⟨v0, c0, rfl, rfl, _⟩ := hentOut _ _ _ _ _ hh
          have := hb2 v0 fr c0 he
          simp only
          omega
        · have hh : s2.ent (.new t j) = some (.obj ver fr c) := hh
          rw [he2, Option.some.injEq] at hh
          obtain ⟨v0, c0, rfl, hv0, _⟩ := hentOut _ _ _ _ _ hh
          obtain rfl : ver = v0 := by omega
          exact ⟨fr, c0, he⟩
  have hle2 : EnvLe (s.env w g β) (s2.env w' g2 β2) := by
    refine ⟨Trans.mem htr2, fun id ver hb => ?_, fun id ver hb hc => ?_⟩
    · obtain ⟨hb1, hb2⟩ := hb
      have hb1 : s.ent id ≠ none := hb1
      have hb2 : ∀ v fr c, s.ent id = some (.obj v fr c) → ver ≤ v := hb2
      by_cases hid : id ∈ ids
      · obtain ⟨k, hk⟩ := List.mem_iff_getElem?.1 hid
        obtain ⟨e, he1, he2⟩ := hgO k id hk
        obtain ⟨fr1, c1, hs1⟩ := hverOf id hid
        refine ⟨by show s2.ent _ ≠ none; rw [he2]; simp, fun v fr c hh => ?_⟩
        have hh : s2.ent id = some (.obj v fr c) := hh
        rw [he2, Option.some.injEq] at hh
        obtain ⟨v0, c0, rfl, rfl, _⟩ := hentOut _ _ _ _ _ hh
        have := hb2 _ _ _ hs1
        omega
      · have := hgS id hid (hnew id hb1)
        exact ⟨by show s2.ent _ ≠ none; rw [this]; exact hb1, fun v fr c hh => hb2 v fr c (this.symm.trans hh)⟩
    · obtain ⟨hb1, hb2⟩ := hb
      have hb1 : s.ent id ≠ none := hb1
      have hb2 : ∀ v fr c, s.ent id = some (.obj v fr c) → ver ≤ v := hb2
      obtain ⟨fr, c, hh⟩ := hc
      have hh : s2.ent id = some (.obj ver fr c) := hh
      by_cases hid : id ∈ ids
      · obtain ⟨k, hk⟩ := List.mem_iff_getElem?.1 hid
        obtain ⟨e, he1, he2⟩ := hgO k id hk
        obtain ⟨fr1, c1, hs1⟩ := hverOf id hid
        rw [he2, Option.some.injEq] at hh
        obtain ⟨v0, c0, rfl, hv0, _⟩ := hentOut _ _ _ _ _ hh
        have hver := hb2 _ _ _ hs1
        obtain rfl : v0 = 0 := by omega
        have hver' : ver = s.verOf id := by omega
        refine ⟨⟨fr1, c1, by rw [hver']; exact hs1⟩, ?_⟩
        show β2 id = β id
        rw [hβO k id hk]
        have hin : s.entIn ids id = .obj 0 fr1 (c1.ren (s.refIn ids)) := by simp [AS.entIn, hs1]
        have h0 : ((lent (ids.map (s.entIn ids))).env w (fun b => labIn ids (g b)) (placeIn β ids)).bnd (.old k) 0 := by
          refine ⟨?_, fun _ _ _ _ => Nat.zero_le _⟩
          show (ids.map (s.entIn ids))[k]? ≠ none
          simp [hk]
        have := (hle.cur (.old k) 0 h0 ⟨fr, c0, he1⟩).2
        have this : β1 (.old k) = (ids[k]?).bind β := this
        rw [this, hk]; rfl
      · have := hgS id hid (hnew id hb1)
        exact ⟨⟨fr, c, this.symm.trans hh⟩, hβS id hid (hnew id hb1)⟩
  have hobj2 : Objs (s2.env w' g2 β2) := by
    intro id ver fr c hh
    have hh : s2.ent id = some (.obj ver fr c) := hh
    by_cases hid : id ∈ ids
    · obtain ⟨k, hk⟩ := List.mem_iff_getElem?.1 hid
      obtain ⟨e, he1, he2⟩ := hgO k id hk
      rw [he2, Option.some.injEq] at hh
      obtain ⟨v0, c0, rfl, _, rfl⟩ := hentOut _ _ _ _ _ hh
      refine ObjR_ren hout (hobjs (.old k) v0 fr c0 he1) (hβO k id hk) fun pl _ => ⟨rfl, fun n hg => ?_, fun hg => ?_⟩
      · have hg : g1 pl.b = .own (.id (.old k)) n := hg
        show labOut g w.heap.size ids t pl.b (g1 pl.b) = _
        rw [hg]
        simp [labOut, idOut, List.getD_eq_getElem?_getD, hk]
      · have hg : g1 pl.b = .free := hg
        show labOut g w.heap.size ids t pl.b (g1 pl.b) = _
        rw [hg]; rfl
    · by_cases hne : G.news ≠ [] ∧ ∃ j, id = .new t j
      · obtain ⟨hne, j, rfl⟩ := hne
        rw [hgN hne j, Option.map_eq_some_iff] at hh
        obtain ⟨e, he, hh⟩ := hh
        obtain ⟨v0, c0, rfl, _, rfl⟩ := hentOut _ _ _ _ _ hh
        refine ObjR_ren hout (hobjs (.new 0 j) v0 fr c0 (by show ([G.news].getD 0 [])[j]? = _; simpa using he)) (hβN hne j) fun pl _ => ⟨rfl, fun n hg => ?_, fun hg => ?_⟩
        · have hg : g1 pl.b = .own (.id (.new 0 j)) n := hg
          show labOut g w.heap.size ids t pl.b (g1 pl.b) = _
          rw [hg]
          rfl
        · have hg : g1 pl.b = .free := hg
          show labOut g w.heap.size ids t pl.b (g1 pl.b) = _
          rw [hg]; rfl
      · have hor : G.news = [] ∨ ∀ j, id ≠ .new t j := by
          by_cases hh : G.news = []
          · exact .inl hh
          · exact .inr fun j e => hne ⟨hh, j, e⟩
        rw [hgS id hid hor] at hh
        have ho := h.objs id ver fr c hh
        refine ho.mono hle2 (hβS id hid hor) fun pl hpl => ?_
        have hpl : β id = some pl := hpl
        obtain ⟨hb, hlab⟩ := ho.label (pl := pl) hpl
        have hb : pl.b < w.heap.size := hb
        have h1 := htr.blk pl.b hb
        have hidx : idxOf id ids = none := by
          cases hi : idxOf id ids with
          | none => rfl
          | some k => exact absurd (List.mem_of_getElem? (idxOf_some hi)) hid
        show w'.heap[pl.b]? = w.heap[pl.b]? ∧ labOut g w.heap.size ids t pl.b (g1 pl.b) = g pl.b
        rcases hlab with ⟨k, hk⟩ | ⟨_, hk⟩
        · have hk : g pl.b = .own (.id id) k := hk
          simp only [hk, labIn, hidx] at h1
          rw [h1.1]
          simp only [labOut, hb, if_true]
          exact ⟨h1.2, trivial⟩
        · have hk : g pl.b = .free := hk
          simp only [hk, labIn] at h1
          rw [h1.1, hk]
          exact ⟨h1.2, rfl⟩
  have hsl : s2.slots = s.slots := by rw [← hs2, slots_setEnts, slots_made]
  exact ⟨g2, β2, h.step hsl htr2 hle2 hobj2, VS_ren hout hval⟩

end
end Go.Ab

/-
  Calls: the operation.
-/
namespace Go.Ab

theorem reach_nodup (s : AS) : ∀ (n : Nat) (todo acc : List Id), acc.Nodup → (s.reach n todo acc).Nodup
  | 0, _, acc, h => by simpa [AS.reach] using h
  | _ + 1, [], acc, h => by simpa [AS.reach] using h
  | n + 1, id :: todo, acc, h => by
    rw [AS.reach]
    split
    · exact reach_nodup s n todo acc h
    · rename_i hc
      refine reach_nodup s n _ _ ?_
      rw [List.nodup_append]
      refine ⟨h, by simp, fun x hx y hy e => ?_⟩
      simp only [List.mem_singleton] at hy
      subst hy e
      exact hc (by simpa using hx)

theorem lends_nodup (s : AS) (vs : List AVal) : (s.lends vs).Nodup := reach_nodup s _ _ _ (by simp)

section
variable {P : Program} {C : Ctx} {g : Nat → Lab} {β : Id → Option Pl} {s : AS} {a : Act} {w : World} {o : Oper}

theorem enter_runs (h : Inv C g β s a w) {f : FuncId} {en : Entry} (hd : Does P f en) {ids : List Id} (hn : ids.Nodup) {vs : List AVal} {ys : List Value} (hv : VSs (s.env w g β) vs ys)
    (hr : (execOp a.eval o).run P w = (callFunc f ys.toArray).run P w) {s' : AS} (he : (s.enter en o.dst ids vs).eval = some s') : Runs P o a w (Sts C s') := by
  unfold AS.enter at he
  obtain ⟨hall, he⟩ := eval_guard.1 he
  obtain ⟨x, hx, he⟩ := eval_get.1 he
  have hp : ∀ id ∈ ids, ∃ r, s.obj id = some r := fun id hid => by
    have := List.all_eq_true.1 hall id hid
    exact Option.isSome_iff_exists.1 this
  have hdo := hd w (fun b => labIn ids (g b)) (placeIn β ids) (vs.map (AVal.ren (s.refIn ids))) (ids.map (s.entIn ids)) ys x (VSs.ren (in_le ids) hv) (in_objs ids hn h.objs) hx
  have key : ∀ v w', After ((lent (ids.map (s.entIn ids))).env w (fun b => labIn ids (g b)) (placeIn β ids)) (en.out (vs.map (AVal.ren (s.refIn ids))) (ids.map (s.entIn ids)) x) v w' → Sts C s' (a.put o.dst v) w' := by
    intro v w' ha
    unfold AS.back at he
    cases hdst : o.dst with
    | some t =>
      rw [hdst] at he
      obtain ⟨hg, he⟩ := eval_guard.1 he
      obtain rfl := eval_ok.1 he
      simp only [Bool.and_eq_true, beq_iff_eq, Bool.or_eq_true] at hg
      obtain ⟨hl, hg⟩ := hg
      have hvir : (en.out (vs.map (AVal.ren (s.refIn ids))) (ids.map (s.entIn ids)) x).news = [] ∨ s.virgin t = true := by
        rcases hg with hg | hg
        · exact .inl (by simpa using hg)
        · exact .inr hg
      obtain ⟨g2, β2, h1, h2⟩ := back_sound h hn hp hl hvir ha
      exact ⟨g2, β2, h1.put (some t) h2⟩
    | none =>
      rw [hdst] at he
      obtain ⟨hg, he⟩ := eval_guard.1 he
      obtain rfl := eval_ok.1 he
      simp only [Bool.and_eq_true, beq_iff_eq] at hg
      obtain ⟨hl, hg⟩ := hg
      have hnew : (en.out (vs.map (AVal.ren (s.refIn ids))) (ids.map (s.entIn ids)) x).news = [] := by simpa using hg
      obtain ⟨g2, β2, h1, _⟩ := back_sound (t := 0) h hn hp hl (.inl hnew) ha
      rw [hnew] at h1
      exact ⟨g2, β2, h1⟩
  rcases hdo with ⟨hen, hc⟩ | ⟨v, w', hva, ha⟩
  · exact .inr (.inr ⟨f, ys.toArray, w, hr.trans hen, hc.mono fun e w' ⟨v, he, ha⟩ => ⟨v, he, key v w' ha⟩⟩)
  · exact .inl ⟨v, w', hr.trans hva, key v w' ha⟩

theorem call_runs (h : Inv C g β s a w) {c : Call} {F : Operand} {f : FuncId} {caps : AVal} {en : Entry} (ho : o.op = .call c) (hc : c.callee = .value F) (hF : s.ev F = .fn f caps) (hd : Does P f en) {s' : AS}
    (he : (s.call en o.dst (c.args.toList.map s.ev ++ caps.list)).eval = some s') : Runs P o a w (Sts C s') := by
  obtain ⟨cal, args, tys⟩ := c
  simp only at hc he
  subst hc
  obtain ⟨vs, hy, hvc⟩ := fn_of (hF ▸ h.ev F)
  have hargs := (h.evs args.toList).append (VC_VSs hvc)
  have hr : (execOp a.eval o).run P w = (callFunc f (args.toList.map a.eval ++ vs).toArray).run P w := by
    have e1 : execOp a.eval o = (do let d ← resolve a.eval { callee := .value F, args, argTypes := tys } o.type; invoke d.target d.args) := by simp only [execOp, ho]
    rw [e1]
    simp only [resolve, hy, Deferred.ofValue, Sem.run_bind, Sem.run_pure, Result.andThen_ok, invoke]
    congr 2
    simp
  unfold AS.call at he
  obtain ⟨r, h1, h2⟩ := eval_bind.1 he
  obtain ⟨g', i1, e1, _, f1⟩ := freezeAll_sound r.2 h
  exact enter_runs i1 hd (lends_nodup _ _) (conv_rep rfl h.objs e1 _ _ _ r hargs h1 f1) hr h2

end
end Go.Ab
