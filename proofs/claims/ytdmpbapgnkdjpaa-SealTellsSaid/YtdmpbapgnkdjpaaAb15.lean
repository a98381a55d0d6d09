/-
  References by other names; what is known of a function; calls.
-/
import Derived.Test.YtdmpbapgnkdjpaaAb14
namespace Go.Ab

/-! ### Renaming -/

abbrev Ren := Id → Nat → Option (Id × Nat)

structure RenLe (ρ : Ren) (E E' : Env) : Prop where
  mem : MemLe E E'
  ref : ∀ id ver r, ρ id ver = some r → E.bnd id ver → E'.bnd r.1 r.2 ∧ (E'.cur r.1 r.2 → E.cur id ver ∧ E'.β r.1 = E.β id)

theorem ren_agg (ρ : Ren) (a : AVal) : (a.ren ρ).agg = a.agg := by
  cases a with
  | ptr id v p n => simp only [AVal.ren]; cases ρ id v <;> rfl
  | sref id v p c i l => simp only [AVal.ren]; cases ρ id v <;> rfl
  | _ => rfl

mutual
theorem V_ren {ρ : Ren} {E E' : Env} (h : RenLe ρ E E') : ∀ {a : AVal} {cs : List Value}, V E a cs → V E' (a.ren ρ) cs
  | .undef, _, hv => by simp only [V] at hv
  | .gone, _, hv => by simpa only [AVal.ren, V] using hv
  | .nils, _, hv => by simpa only [AVal.ren, V] using hv
  | .nilp, _, hv => by simpa only [AVal.ren, V] using hv
  | .nilf, _, hv => by simpa only [AVal.ren, V] using hv
  | .nilm, _, hv => by simpa only [AVal.ren, V] using hv
  | .sb l, _, hv => by
    simp only [AVal.ren, V] at hv ⊢
    obtain ⟨b, cap, arr, e, h1, h2, h3, h4, h5⟩ := hv
    obtain ⟨h6, h7⟩ := h.mem.fz b _ h3 h4
    exact ⟨b, cap, arr, e, h1, h2, h6, h7, h5⟩
  | .d t x, _, hv => by simp only [AVal.ren, V] at hv ⊢; exact hv.mono h.mem
  | .pr a b, _, hv => by
    simp only [AVal.ren, V] at hv ⊢
    obtain ⟨ca, cb, e, ha, hb⟩ := hv
    exact ⟨ca, cb, e, V_ren h ha, V_ren h hb⟩
  | .ptr id ver p n, _, hv => by
    have h1 := hv.one
    simp only [AVal.ren]
    cases hr : ρ id ver with
    | none =>
      simp only [V] at hv ⊢
      obtain ⟨a, e, _⟩ := hv
      exact ⟨_, e, h1 _ (by simp [e])⟩
    | some r =>
      simp only [V] at hv ⊢
      obtain ⟨a, e, hb, hc⟩ := hv
      obtain ⟨b1, b2⟩ := h.ref id ver r hr hb
      refine ⟨a, e, b1, fun c => ?_⟩
      obtain ⟨c1, e1⟩ := b2 c
      rw [e1]; exact hc c1
  | .rptr t x, _, hv => by
    simp only [AVal.ren, V] at hv ⊢
    obtain ⟨b, off, vs, e, hr, hx⟩ := hv
    exact ⟨b, off, vs, e, hr.mono h.mem, hx.mono h.mem⟩
  | .sref id ver p c i len, _, hv => by
    have h1 := hv.one
    simp only [AVal.ren]
    cases hr : ρ id ver with
    | none =>
      simp only [V] at hv ⊢
      obtain ⟨a, cap, e, _⟩ := hv
      exact ⟨_, e, h1 _ (by simp [e])⟩
    | some r =>
      simp only [V] at hv ⊢
      obtain ⟨a, cap, e, hl, hs, hb, hc⟩ := hv
      obtain ⟨b1, b2⟩ := h.ref id ver r hr hb
      refine ⟨a, cap, e, hl, hs, b1, fun c => ?_⟩
      obtain ⟨c1, e1⟩ := b2 c
      rw [e1]; exact hc c1
  | .fn f c, _, hv => by
    simp only [AVal.ren, V] at hv ⊢
    obtain ⟨vs, e, hc⟩ := hv
    exact ⟨vs, e, VC_ren h hc⟩
  | .cons _ _, _, hv => by simp only [V] at hv
  | .nil, _, hv => by simp only [V] at hv
  | .vec .., _, hv => by simp only [V] at hv
theorem VC_ren {ρ : Ren} {E E' : Env} (h : RenLe ρ E E') : ∀ {a : AVal} {vs : List Value}, VC E a vs → VC E' (a.ren ρ) vs
  | .nil, _, hv => by simpa only [AVal.ren, VC] using hv
  | .cons a b, _, hv => by
    simp only [AVal.ren, VC] at hv ⊢
    obtain ⟨v, vs', cs, e, ha, ho, hb⟩ := hv
    exact ⟨v, vs', cs, e, V_ren h ha, by rw [ren_agg]; exact ho, VC_ren h hb⟩
  | .undef, _, hv => by simp only [VC] at hv
  | .gone, _, hv => by simp only [VC] at hv
  | .nils, _, hv => by simp only [VC] at hv
  | .nilp, _, hv => by simp only [VC] at hv
  | .nilf, _, hv => by simp only [VC] at hv
  | .nilm, _, hv => by simp only [VC] at hv
  | .sb _, _, hv => by simp only [VC] at hv
  | .d t x, _, hv => by simp only [VC] at hv
  | .pr a b, _, hv => by simp only [VC] at hv
  | .ptr .., _, hv => by simp only [VC] at hv
  | .rptr .., _, hv => by simp only [VC] at hv
  | .sref .., _, hv => by simp only [VC] at hv
  | .fn .., _, hv => by simp only [VC] at hv
  | .vec .., _, hv => by simp only [VC] at hv
end

theorem VS_ren {ρ : Ren} {E E' : Env} (h : RenLe ρ E E') {a : AVal} {v : Value} (hv : VS E a v) : VS E' (a.ren ρ) v := by
  by_cases hc : a.celled = true
  · obtain ⟨cs, h1, h2⟩ := hv.celled hc
    exact VS.of (V_ren h h1) (by rw [ren_agg]; exact h2)
  · cases a <;> first | (exact absurd rfl hc) | skip
    · trivial
    · obtain ⟨vs, e, hvc⟩ := hv
      have := VC_ren h hvc
      simp only [AVal.ren] at this ⊢
      exact ⟨vs, e, this⟩
    · exact hv
    · obtain ⟨cs, h1, _⟩ := hv
      simp only [V] at h1

theorem isVec_ren (ρ : Ren) {a : AVal} (h : a.isVec = false) : (a.ren ρ).isVec = false := by
  cases a <;> first | rfl | (simp [AVal.isVec] at h; done) | (simp only [AVal.ren]; split <;> rfl)

theorem ObjR_ren {ρ : Ren} {E E' : Env} (h : RenLe ρ E E') {id id' : Id} {fr : Bool} {c : AVal} (ho : ObjR E id fr c) (hβ : E'.β id' = E.β id)
    (hb : ∀ pl, E.β id = some pl → E'.w.heap[pl.b]? = E.w.heap[pl.b]? ∧ (∀ k, E.g pl.b = .own (.id id) k → E'.g pl.b = .own (.id id') k) ∧ (E.g pl.b = .free → E'.g pl.b = .free)) : ObjR E' id' fr (c.ren ρ) := by
  by_cases hn : c.isVec = false
  · obtain ⟨pl, cur, e, h1, h2, h3, h4⟩ := ho.box hn
    obtain ⟨b1, b2, b3⟩ := hb pl h1
    refine BoxR.obj ⟨pl, cur, e, by rw [hβ, h1], by rw [b1, h2], ?_, V_ren h h4⟩
    cases fr with
    | true => exact b3 h3
    | false => exact b2 0 h3
  · cases c <;> first
      | (exact absurd rfl hn)
      | skip
    rename_i e t l
    obtain ⟨hz, ho⟩ := ho
    refine ⟨hz, ?_⟩
    rw [hβ]
    cases hp : E.β id with
    | none => rw [hp] at ho; exact ho
    | some pl =>
      rw [hp] at ho
      simp only at ho ⊢
      obtain ⟨b1, b2, _⟩ := hb pl hp
      obtain ⟨cur, k, h1, h2, h3, h4, h5, h6, h7, h8⟩ := ho
      exact ⟨cur, k, by rw [b1, h1], h2, h3, h4, b2 k h5, h6, h7, h8.mono fun c x hx => hx.mono h.mem⟩

/-! ### What is known of a function -/

def VSs (E : Env) : List AVal → List Value → Prop
  | [], [] => True
  | a :: as, v :: vs => VS E a v ∧ VSs E as vs
  | _, _ => False

def GRes.st (G : GRes) : AS := { slots := [], olds := G.olds, news := [G.news] }
def lent (olds : List Ent) : AS := { slots := [], olds, news := [] }

def After (E : Env) (G : GRes) (v : Value) (w' : World) : Prop :=
  ∃ g' β', VS (G.st.env w' g' β') G.val v ∧ Objs (G.st.env w' g' β') ∧ Trans E.w w' E.g g' ∧ EnvLe E (G.st.env w' g' β')

/-- What an entry says of its function. -/
def Does (P : Program) (f : FuncId) (en : Entry) : Prop :=
  ∀ w g β args olds vals x, VSs ((lent olds).env w g β) args vals → Objs ((lent olds).env w g β) → en.run args olds = some x →
    ((callFunc f vals.toArray).run P w = .ok (.enter f vals.toArray) w ∧
      Calls P f vals.toArray w fun e w' => ∃ v, e = .returned v ∧ After ((lent olds).env w g β) (en.out x) v w') ∨
    (∃ v w', (callFunc f vals.toArray).run P w = .ok (.value v) w' ∧ After ((lent olds).env w g β) (en.out x) v w')

def Sound (P : Program) (Γ : Gam) : Prop := ∀ f vs en, Γ f vs = some en → Does P f en

/-! ### Arguments -/

theorem VSs.mono {E E' : Env} (h : EnvLe E E') : ∀ {as : List AVal} {vs : List Value}, VSs E as vs → VSs E' as vs
  | [], [], _ => trivial
  | _ :: _, _ :: _, ⟨h1, h2⟩ => ⟨h1.mono h, VSs.mono h h2⟩

theorem VSs.ren {ρ : Ren} {E E' : Env} (h : RenLe ρ E E') : ∀ {as : List AVal} {vs : List Value}, VSs E as vs → VSs E' (as.map (AVal.ren ρ)) vs
  | [], [], _ => trivial
  | _ :: _, _ :: _, ⟨h1, h2⟩ => ⟨VS_ren h h1, VSs.ren h h2⟩

theorem VSs.append {E : Env} : ∀ {as : List AVal} {vs : List Value} {bs : List AVal} {us : List Value}, VSs E as vs → VSs E bs us → VSs E (as ++ bs) (vs ++ us)
  | [], [], _, _, _, h => h
  | _ :: _, _ :: _, _, _, ⟨h1, h2⟩, h => ⟨h1, VSs.append h2 h⟩

theorem VC_VSs {E : Env} : ∀ {c : AVal} {vs : List Value}, VC E c vs → VSs E c.list vs
  | .cons a b, vs, h => by
    simp only [VC] at h
    obtain ⟨v, vs', cs, rfl, ha, ho, hb⟩ := h
    exact ⟨VS.of ha ho, VC_VSs hb⟩
  | .nil, vs, h => by
    simp only [VC] at h
    subst h
    trivial
  | .undef, _, hv => by simp only [VC] at hv
  | .gone, _, hv => by simp only [VC] at hv
  | .nils, _, hv => by simp only [VC] at hv
  | .nilp, _, hv => by simp only [VC] at hv
  | .nilf, _, hv => by simp only [VC] at hv
  | .nilm, _, hv => by simp only [VC] at hv
  | .sb _, _, hv => by simp only [VC] at hv
  | .d t x, _, hv => by simp only [VC] at hv
  | .pr a b, _, hv => by simp only [VC] at hv
  | .ptr .., _, hv => by simp only [VC] at hv
  | .rptr .., _, hv => by simp only [VC] at hv
  | .sref .., _, hv => by simp only [VC] at hv
  | .fn .., _, hv => by simp only [VC] at hv
  | .vec .., _, hv => by simp only [VC] at hv

theorem Inv.evs {C : Ctx} {g : Nat → Lab} {β : Id → Option Pl} {s : AS} {a : Act} {w : World} (h : Inv C g β s a w) : ∀ l : List Operand, VSs (s.env w g β) (l.map s.ev) (l.map a.eval)
  | [] => trivial
  | x :: l => ⟨h.ev x, h.evs l⟩

/-- Data out of arguments. -/
theorem conv_rep {E E' : Env} {s : AS} (hs : E.s = s.ent) (ho : Objs E) (he : EnvLe E E') : ∀ (ps : List (Option Ty)) (vs : List AVal) (ys : List Value) (r : List AVal × List Id), VSs E vs ys → (s.conv ps vs).eval = some r → Frz E E' r.2 → VSs E' r.1 ys
  | [], [], ys, r, hv, h, _ => by
    simp only [AS.conv, eval_ok] at h
    subst h
    cases ys with
    | nil => trivial
    | cons _ _ => exact hv.elim
  | some t :: ps, v :: vs, y :: ys, r, ⟨hv, hvs⟩, h, hf => by
    simp only [AS.conv] at h
    obtain ⟨x, h1, h2⟩ := eval_bind.1 h
    obtain ⟨r', h3, h4⟩ := eval_bind.1 h2
    obtain rfl := eval_ok.1 h4
    obtain ⟨cs, hV, hO⟩ := hv.celled (toTy_celled h1)
    refine ⟨VS.of (cs := cs) ?_ ?_, conv_rep hs ho he ps vs ys r' hvs h3 fun id hid => hf id (List.mem_append.2 (.inr hid))⟩
    · simp only [V]
      exact toTy_rep hs ho he v t x cs hV h1 fun id hid => hf id (List.mem_append.2 (.inl hid))
    · show OfCells t.agg cs y
      rw [← toTy_agg h1]; exact hO
  | none :: ps, v :: vs, y :: ys, r, ⟨hv, hvs⟩, h, hf => by
    simp only [AS.conv] at h
    obtain ⟨r', h3, h4⟩ := eval_bind.1 h
    obtain rfl := eval_ok.1 h4
    exact ⟨hv.mono he, conv_rep hs ho he ps vs ys r' hvs h3 hf⟩
  | [], _ :: _, _, _, _, h, _ => by simp only [AS.conv, eval_fail] at h
  | some _ :: _, [], _, _, _, h, _ => by simp only [AS.conv, eval_fail] at h
  | none :: _, [], _, _, _, h, _ => by simp only [AS.conv, eval_fail] at h

end Go.Ab
