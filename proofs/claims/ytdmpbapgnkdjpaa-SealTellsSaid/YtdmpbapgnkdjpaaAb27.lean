/-
  Functions: what the abstract machine says of one, it does.
-/
import Derived.Test.YtdmpbapgnkdjpaaAb26
namespace Go.Ab

def labFin (ids : List Id) : Lab → Lab
  | .own (.id (.new i j)) k => .own (.id (match idxOf (.new i j) ids with | some m => .new 0 m | none => .new 1 0)) k
  | l => l

def placeFin (β : Id → Option Pl) (ids : List Id) : Id → Option Pl
  | .old k => β (.old k)
  | .new 0 m => (ids[m]?).bind β
  | .new (_ + 1) _ => none

theorem labFin_ok {ids : List Id} {g : Nat → Lab} {b off : Nat} (h : okAt g b off) : okAt (fun b => labFin ids (g b)) b off := by
  unfold okAt at *
  simp only
  cases hg : g b with
  | free => simp [labFin]
  | own o k =>
    rw [hg] at h
    cases o with
    | foreign => exact h
    | id i => cases i <;> exact h

theorem finIds_nodup (s : AS) (v : AVal) : (s.finIds v).Nodup := (reach_nodup s _ _ _ (by simp)).filter _
theorem finIds_new {s : AS} {v : AVal} {id : Id} (h : id ∈ s.finIds v) : ∃ i j, id = .new i j := by
  unfold AS.finIds at h
  have := (List.mem_filter.1 h).2
  cases id with
  | old k => simp [Id.isNew] at this
  | new i j => exact ⟨i, j, rfl⟩

section
variable {P : Program} {Γ : Gam} {C : Ctx} {g : Nat → Lab} {β : Id → Option Pl} {s : AS} {a : Act} {w : World}

theorem fin_sound (h : Inv C g β s a w) (hC : ∀ i j, C.E.s (.new i j) = none) {v : AVal} {x : Value} (hv : VS (s.env w g β) v x) : After C.E (s.fin v) x w := by
  unfold AS.fin
  have hn := finIds_nodup s v
  have hnew : ∀ id ∈ s.finIds v, ∃ i j, id = .new i j := fun id hid => finIds_new hid
  generalize s.finIds v = ids at hn hnew
  generalize hG : s.finAt ids v = G
  have hval : G.val = v.ren (finRef ids) := by rw [← hG]; rfl
  have hold : ∀ k, G.st.ent (.old k) = (s.ent (.old k)).map (Ent.fin ids) := fun k => by
    rw [← hG]
    show (s.olds.map (Ent.fin ids))[k]? = _
    rw [List.getElem?_map]; rfl
  have hnw : ∀ m, G.st.ent (.new 0 m) = (ids[m]?).map fun id => ((s.ent id).getD .dead).fin ids := fun m => by
    rw [← hG]
    show (ids.map fun id => ((s.ent id).getD .dead).fin ids)[m]? = _
    rw [List.getElem?_map]
  have hns : ∀ i m, G.st.ent (.new (i + 1) m) = none := fun i m => by simp [GRes.st, AS.ent]
  let g' : Nat → Lab := fun b => labFin ids (g b)
  let β' := placeFin β ids
  have hfin : ∀ e ver fr c, Ent.fin ids e = .obj ver fr c → ∃ c0, e = .obj ver fr c0 ∧ c = c0.ren (finRef ids) := fun e ver fr c he => by
    cases e with
    | dead => cases he
    | obj v0 fr0 c0 =>
      simp only [Ent.fin, Ent.obj.injEq] at he
      obtain ⟨rfl, rfl, rfl⟩ := he
      exact ⟨c0, rfl, rfl⟩
  have hle : RenLe (finRef ids) (s.env w g β) (G.st.env w g' β') := by
    refine ⟨⟨fun b off v ⟨h1, h2⟩ => ⟨h1, labFin_ok h2⟩, fun b ob h1 h2 => ⟨by show labFin ids (g b) = .free; have h1 : g b = .free := h1; rw [h1]; rfl, h2⟩⟩, fun id ver r hr hb => ?_⟩
    obtain ⟨hb1, hb2⟩ := hb
    have hb1 : s.ent id ≠ none := hb1
    have hb2 : ∀ v fr c, s.ent id = some (.obj v fr c) → ver ≤ v := hb2
    cases id with
    | old k =>
      simp only [finRef, Option.some.injEq] at hr
      subst hr
      refine ⟨⟨?_, fun v fr c hh => ?_⟩, fun ⟨fr, c, hh⟩ => ⟨?_, rfl⟩⟩
      · show G.st.ent (.old k) ≠ none
        rw [hold]; simpa using hb1
      · have hh : G.st.ent (.old k) = some (.obj v fr c) := hh
        rw [hold, Option.map_eq_some_iff] at hh
        obtain ⟨e, he, hh⟩ := hh
        obtain ⟨c0, rfl, _⟩ := hfin _ _ _ _ hh
        exact hb2 v fr c0 he
      · have hh : G.st.ent (.old k) = some (.obj ver fr c) := hh
        rw [hold, Option.map_eq_some_iff] at hh
        obtain ⟨e, he, hh⟩ := hh
        obtain ⟨c0, rfl, _⟩ := hfin _ _ _ _ hh
        exact ⟨fr, c0, he⟩
    | new i j =>
      simp only [finRef] at hr
      split at hr
      · rename_i m hm
        simp only [Option.some.injEq] at hr
        subst hr
        have hid := idxOf_some hm
        obtain ⟨e, he⟩ := Option.ne_none_iff_exists'.1 hb1
        have hg : G.st.ent (.new 0 m) = some (e.fin ids) := by rw [hnw, hid]; simp [he]
        refine ⟨⟨?_, fun v fr c hh => ?_⟩, fun ⟨fr, c, hh⟩ => ⟨?_, ?_⟩⟩
        · show G.st.ent (.new 0 m) ≠ none
          rw [hg]; simp
        · have hh : G.st.ent (.new 0 m) = some (.obj v fr c) := hh
          rw [hg, Option.some.injEq] at hh
          obtain ⟨c0, rfl, _⟩ := hfin _ _ _ _ hh
          exact hb2 v fr c0 he
        · have hh : G.st.ent (.new 0 m) = some (.obj ver fr c) := hh
          rw [hg, Option.some.injEq] at hh
          obtain ⟨c0, rfl, _⟩ := hfin _ _ _ _ hh
          exact ⟨fr, c0, he⟩
        · show (ids[m]?).bind β = β (.new i j)
          rw [hid]; rfl
      · cases hr
  have htr : Trans C.E.w w C.E.g g' := by
    have h0 := h.trans
    refine ⟨h0.os, h0.tape, h0.output, h0.size, fun b hb => ?_⟩
    have h1 := h0.blk b hb
    show match C.E.g b with | .free => labFin ids (g b) = .free ∧ _ | .own .foreign k => labFin ids (g b) = .own .foreign k ∧ _ | .own (.id _) k => (labFin ids (g b) = .free ∨ ∃ i k', labFin ids (g b) = .own (.id i) k' ∧ k ≤ k') ∧ _
    cases hgb : C.E.g b with
    | free => simp only [hgb] at h1 ⊢; rw [h1.1]; exact ⟨rfl, h1.2⟩
    | own o k => cases o with
      | foreign => simp only [hgb] at h1 ⊢; rw [h1.1]; exact ⟨rfl, h1.2⟩
      | id i =>
        simp only [hgb] at h1 ⊢
        refine ⟨?_, h1.2⟩
        rcases h1.1 with h2 | ⟨i', k', h2, h3⟩
        · rw [h2]; exact .inl rfl
        · rw [h2]
          right
          cases i' with
          | old m => exact ⟨_, k', rfl, h3⟩
          | new i j => exact ⟨_, k', rfl, h3⟩
  have hobj : Objs (G.st.env w g' β') := by
    intro id ver fr c hid
    have hid : G.st.ent id = some (.obj ver fr c) := hid
    cases id with
    | old k =>
      rw [hold, Option.map_eq_some_iff] at hid
      obtain ⟨e, he, hid⟩ := hid
      obtain ⟨c0, rfl, rfl⟩ := hfin _ _ _ _ hid
      refine ObjR_ren hle (h.objs (.old k) ver fr c0 he) rfl fun pl _ => ⟨rfl, fun n hg => ?_, fun hg => ?_⟩
      · have hg : g pl.b = .own (.id (.old k)) n := hg
        show labFin ids (g pl.b) = _
        rw [hg]; rfl
      · have hg : g pl.b = .free := hg
        show labFin ids (g pl.b) = _
        rw [hg]; rfl
    | new i m =>
      cases i with
      | succ i => rw [hns] at hid; cases hid
      | zero =>
        rw [hnw, Option.map_eq_some_iff] at hid
        obtain ⟨id0, hid0, hid⟩ := hid
        obtain ⟨c0, he, rfl⟩ := hfin _ _ _ _ hid
        have hent : s.ent id0 = some (.obj ver fr c0) := by
          cases hs : s.ent id0 with
          | none => rw [hs] at he; cases he
          | some e => rw [hs] at he; simp only [Option.getD_some] at he; rw [he]
        obtain ⟨i0, j0, rfl⟩ := hnew id0 (List.mem_of_getElem? hid0)
        refine ObjR_ren hle (h.objs (.new i0 j0) ver fr c0 hent) (by show (ids[m]?).bind β = _; rw [hid0]; rfl) fun pl _ => ⟨rfl, fun n hg => ?_, fun hg => ?_⟩
        · have hg : g pl.b = .own (.id (.new i0 j0)) n := hg
          show labFin ids (g pl.b) = _
          rw [hg]
          simp only [labFin, idxOf_nodup hn hid0]
        · have hg : g pl.b = .free := hg
          show labFin ids (g pl.b) = _
          rw [hg]; rfl
  have ho : ∀ id ver, C.E.bnd id ver → ∃ k, id = .old k := fun id ver hb => by
    cases id with
    | old k => exact ⟨k, rfl⟩
    | new i j => exact absurd (hC i j) hb.1
  refine ⟨g', β', by rw [hval]; exact VS_ren hle hv, hobj, htr, Trans.mem (E := C.E) (E' := G.st.env w g' β') htr, fun id ver hb => ?_, fun id ver hb hc => ?_⟩
  · obtain ⟨k, rfl⟩ := ho id ver hb
    exact (hle.ref (.old k) ver (.old k, ver) rfl (h.le.bnd _ _ hb)).1
  · obtain ⟨k, rfl⟩ := ho id ver hb
    obtain ⟨h1, h2⟩ := (hle.ref (.old k) ver (.old k, ver) rfl (h.le.bnd _ _ hb)).2 hc
    obtain ⟨h3, h4⟩ := h.le.cur _ _ hb h1
    exact ⟨h3, h2.trans h4⟩

theorem VSs.len {E : Env} : ∀ {as : List AVal} {vs : List Value}, VSs E as vs → as.length = vs.length
  | [], [], _ => rfl
  | _ :: _, _ :: _, ⟨_, h⟩ => by simp [VSs.len h]
  | [], _ :: _, h => h.elim
  | _ :: _, [], h => h.elim

theorem VSs.get {E : Env} : ∀ {as : List AVal} {vs : List Value}, VSs E as vs → ∀ i, VS E (as.getD i .undef) (vs.getD i undef)
  | [], [], _, i => by simpa using VS.undef
  | _ :: _, _ :: _, ⟨h, _⟩, 0 => by simpa using h
  | _ :: _, _ :: _, ⟨_, h⟩, i + 1 => by simpa using VSs.get h i
  | [], _ :: _, h, _ => h.elim
  | _ :: _, [], h, _ => h.elim

theorem start_inv {w : World} {g : Nat → Lab} {β : Id → Option Pl} {fn : Func} {args : List AVal} {olds : List Ent} {vals : List Value} (hv : VSs ((lent olds).env w g β) args vals) (ho : Objs ((lent olds).env w g β)) :
    Inv ⟨(lent olds).env w g β⟩ g β (start fn args olds) { tmps := vals.toArray ++ Array.replicate (fn.ntmps - vals.toArray.size) undef, defers := [] } w := by
  have hl := hv.len
  have hent : (start fn args olds).ent = (lent olds).ent := by
    funext id
    cases id with
    | old k => rfl
    | new i j =>
      simp only [start, lent, AS.ent, List.getD_eq_getElem?_getD, List.getElem?_replicate]
      split <;> simp
  have henv : (start fn args olds).env w g β = (lent olds).env w g β := by simp only [AS.env, hent]
  refine ⟨rfl, by simp [start, hl], fun i => ?_, by rw [henv]; exact ho, Trans.refl _ _, by rw [henv]; exact EnvLe.refl _⟩
  rw [henv]
  have h1 : (start fn args olds).slot i = args.getD i .undef := by
    simp only [start, AS.slot, List.getD_eq_getElem?_getD, List.getElem?_append, List.getElem?_replicate]
    split
    · rfl
    · rw [List.getElem?_eq_none (l := args) (by omega)]
      split <;> rfl
  have h2 : (vals.toArray ++ Array.replicate (fn.ntmps - vals.toArray.size) undef).getD i undef = vals.getD i undef := by
    simp only [Array.getD_eq_getD_getElem?, List.getD_eq_getElem?_getD, Array.getElem?_append, Array.getElem?_replicate]
    simp only [List.size_toArray, List.getElem?_toArray]
    split
    · rfl
    · rw [List.getElem?_eq_none (l := vals) (by omega)]
      split <;> rfl
  rw [h1, h2]
  exact hv.get i

/-- An entry holds, if the abstract machine says so. -/
theorem Does.of_run (hm : P.follows .mixedOrders = true) (hΓ : Sound P Γ) {f : FuncId} {fn : Func} (hf : P.funcs[f]? = some fn) (hb : fn.body.isSome = true) (hname : (fn.name == "runtime.NumGoroutine") = false) {en : Entry} {an : Ann} {N : Nat} (hL : ∀ c, fn.body = some c → LOk P Γ an N (loopsOf c))
    (h : ∀ args olds x, en.run args olds = some x → arun P Γ an N fn args olds some = some (en.out x)) : Does P f en := by
  intro w g β args olds vals x hv ho hx
  left
  obtain ⟨c, hc⟩ := Option.isSome_iff_exists.1 hb
  refine ⟨?_, ?_⟩
  · unfold callFunc
    have hname' : ¬ fn.name = "runtime.NumGoroutine" := by simpa using hname
    simp [hf, hname', hc]
  · have hN := h args olds x hx
    unfold arun at hN
    rw [hc] at hN
    simp only at hN
    have hC : ∀ i j, ((lent olds).env w g β).s (.new i j) = none := fun i j => by simp [AS.env, lent, AS.ent]
    refine calls_of_wp hf hc (ev_sound (C := ⟨(lent olds).env w g β⟩) hm hΓ hC c (hL c hc) _ _ w _ _ ⟨g, β, start_inv hv ho⟩ hN fun e s' a' w' hs' hk' => ?_)
    have fin : (finish P an fn s').run (fun v => some v) = some (en.out x) → a'.defers = [] ∧ ∃ v, (results fn a'.tmps).run P w' = .ok v w' ∧ ∃ u, Ending.returned v = .returned u ∧ After ((lent olds).env w g β) (en.out x) u w' := fun hr => by
      obtain ⟨G, h1, h2⟩ := run_some.1 hr
      simp only [Option.some.injEq] at h2
      subst h2
      unfold finish at h1
      obtain ⟨s2, h3, h4⟩ := eval_bind.1 h1
      obtain ⟨s3, h4a, h4⟩ := eval_bind.1 h4
      obtain ⟨y, h5, h6⟩ := eval_bind.1 h4
      obtain ⟨g0, β0, hi0⟩ := hs'
      obtain ⟨g', β', hi⟩ := trim_sound _ (promote_sound hC _ ⟨g0, β0, hi0.drop _⟩ h3) h4a
      obtain ⟨z, g2, h7, h8, h9⟩ := resultA_sound hi h5
      refine ⟨hi.defers, z, h7, z, rfl, ?_⟩
      rw [← eval_ok.1 h6]
      exact fin_sound h8 hC h9
    cases e with
    | normal => exact fin hk'
    | ret => exact fin hk'
    | _ => cases hk'

end
end Go.Ab
