/-
  The abstract machine, a part.
-/
import Derived.Test.YtglpcfdjdabdnaaAb23
import Derived.Scope

/-
  Code, results, functions: what the abstract machine says of a function, it does.
-/
namespace Go.Ab

section
variable {P : Program} {Γ : Gam} {an : Ann} {C : Ctx}

/-- What an entry says of its loop. -/
def LDo (P : Program) (Γ : Gam) (an : Ann) (N : Nat) (b : Code) : Prop :=
  ∀ le, an.sums (firstRegion b) = some le → ∀ s x, le.run s = some x →
    ∃ n, loopS (norm P (an.loops (firstRegion b))) (fun e => norm P (an.outs (firstRegion b) (isRet e))) (ev P Γ an N b) n s (fun e s' => some (e, s')) = (le.out x).eval

def LOk (P : Program) (Γ : Gam) (an : Ann) (N : Nat) : List Code → Prop
  | [] => True
  | b :: l => LDo P Γ an N b ∧ LOk P Γ an N l

theorem LOk.append {N : Nat} : ∀ {l l' : List Code}, LOk P Γ an N (l ++ l') → LOk P Γ an N l ∧ LOk P Γ an N l'
  | [], _, h => ⟨trivial, h⟩
  | _ :: _, _, ⟨h1, h2⟩ => ⟨⟨h1, (LOk.append h2).1⟩, (LOk.append h2).2⟩

theorem loop_sound {R : Type} {r : R} {b : Code} {nrm : AS → Out AS} {nrmX : Exit → AS → Out AS} {body : AS → (Exit → AS → Option R) → Option R}
    (hn : ∀ s s1 a w, Sts C s a w → (nrm s).eval = some s1 → Sts C s1 a w) (hx : ∀ e s s1 a w, Sts C s a w → (nrmX e s).eval = some s1 → Sts C s1 a w)
    (hb : ∀ (s : AS) (a : Act) (w : World) (k : Exit → AS → Option R) (Q : Exit → Act → World → Prop), Sts C s a w → body s k = some r → (∀ e s' a' w', Sts C s' a' w' → k e s' = some r → Q e a' w') → b.wp P Q a w)
    {k : Exit → AS → Option R} {Q : Exit → Act → World → Prop} (hk : ∀ e s' a' w', Sts C s' a' w' → k e s' = some r → Q e a' w') :
    ∀ (n : Nat) (s : AS) (a : Act) (w : World), Sts C s a w → loopS nrm nrmX body n s k = some r → Code.rounds P b Q n a w
  | 0, s, a, w, _, h => by simp [loopS] at h
  | n + 1, s, a, w, hs, h => by
    simp only [loopS] at h
    rw [rounds_succ]
    refine hb s a w _ _ hs h fun e s' a' w' hs' hke => ?_
    have exits : ∀ e, (nrmX e s').run (k e) = some r → Q e a' w' := fun e hke => by
      obtain ⟨s1, h1, h2⟩ := run_some.1 hke
      exact hk e s1 a' w' (hx e s' s1 a' w' hs' h1) h2
    cases e with
    | normal =>
      simp only at hke
      obtain ⟨s1, h1, h2⟩ := run_some.1 hke
      exact loop_sound hn hx hb hk n s1 a' w' (hn s' s1 a' w' hs' h1) h2
    | _ => exact exits _ hke

theorem joined_sound (hC : ∀ i j, C.E.s (.new i j) = none) {j : Option Join} {run : {R : Type} → (Exit → AS → Option R) → Option R} {c : Code} {a : Act} {w : World}
    (hrun : ∀ {R : Type} {r : R} (k : Exit → AS → Option R) (Q : Exit → Act → World → Prop), run k = some r → (∀ e s' a' w', Sts C s' a' w' → k e s' = some r → Q e a' w') → c.wp P Q a w)
    {R : Type} {r : R} {k : Exit → AS → Option R} {Q : Exit → Act → World → Prop} (h : joined P j run k = some r) (hk : ∀ e s' a' w', Sts C s' a' w' → k e s' = some r → Q e a' w') : c.wp P Q a w := by
  cases j with
  | none => exact hrun k Q h hk
  | some j =>
    simp only [joined] at h
    cases hx : run fun e s => (norm P j.an s).run (j.inn e) with
    | none => rw [hx] at h; cases h
    | some x =>
      rw [hx] at h
      simp only [obind] at h
      obtain ⟨y, hy, h⟩ := run_some.1 h
      refine hrun _ Q hx fun e s' a' w' hs' hK => ?_
      obtain ⟨s1, h1, h2⟩ := run_some.1 hK
      have he := j.ok _ _ _ h2
      rw [hy, Option.some.injEq] at he
      subst he
      exact hk e s1 a' w' (norm_sound hC hs' h1) h

theorem ev_sound (hm : P.follows .mixedOrders = true) (hΓ : Sound P Γ) (hC : ∀ i j, C.E.s (.new i j) = none) {N : Nat} : ∀ (c : Code), LOk P Γ an N (loopsOf c) → ∀ {R : Type} {r : R} (s : AS) (a : Act) (w : World) (k : Exit → AS → Option R) (Q : Exit → Act → World → Prop),
    Sts C s a w → ev P Γ an N c s k = some r → (∀ e s' a' w', Sts C s' a' w' → k e s' = some r → Q e a' w') → c.wp P Q a w
  | .skip, hL, _, _, s, a, w, k, Q, hs, h, hk => wp_skip (hk _ _ _ _ hs h)
  | .region id ops draw, hL, _, _, s, a, w, k, Q, hs, h, hk => by
    simp only [ev] at h
    refine joined_sound hC (fun k Q h hk => ?_) h hk
    cases draw with
    | true =>
      simp only at h
      split at h
      · rename_i hE
        exact region_draw hm hΓ hs hE h fun s' a' w' hs' hk' => hk _ _ _ _ hs' hk'
      · cases h
    | false => exact wp_region_list (gops_wpList hΓ ops.toList hs h fun s' a' w' hs' hk' => hk _ _ _ _ hs' hk')
  | .seq x y, hL, _, _, s, a, w, k, Q, hs, h, hk => by
    simp only [ev] at h
    refine wp_seq (joined_sound hC (fun k Q h hk => ev_sound hm hΓ hC x hL.append.1 s a w k Q hs h hk) h fun e s' a' w' hs' hk' => ?_)
    cases e with
    | normal => exact ev_sound hm hΓ hC y hL.append.2 s' a' w' k Q hs' hk' hk
    | _ => exact hk _ s' a' w' hs' hk'
  | .cond c x y, hL, _, _, s, a, w, k, Q, hs, h, hk => by
    simp only [ev] at h
    split at h
    · rename_i b hb
      have hc : a.eval c = .bool b := by
        obtain ⟨g, β, hi⟩ := hs
        have := hi.ev c
        rw [hb] at this
        exact bool_of this
      refine wp_cond hc ?_
      cases b with
      | true => exact ev_sound hm hΓ hC x hL.append.1 s a w k Q hs h hk
      | false => exact ev_sound hm hΓ hC y hL.append.2 s a w k Q hs h hk
    · cases h
  | .block id b, hL, _, _, s, a, w, k, Q, hs, h, hk => by
    simp only [ev] at h
    refine wp_block (ev_sound hm hΓ hC b hL s a w _ _ hs h fun e s' a' w' hs' hk' => ?_)
    cases e with
    | exit i =>
      simp only at hk'
      simp only [Exit.inBlock]
      by_cases hi : i = id
      · rw [if_pos hi]
        simp only [hi, decide_true] at hk'
        exact hk _ s' a' w' hs' hk'
      · rw [if_neg hi]
        simp only [hi, decide_false] at hk'
        exact hk _ s' a' w' hs' hk'
    | _ => exact hk _ s' a' w' hs' hk'
  | .loop b, hL, R, r, s, a, w, k, Q, hs, h, hk => by
    simp only [ev] at h
    obtain ⟨s1, h1, h⟩ := run_some.1 h
    have hs1 := norm_sound hC hs h1
    obtain ⟨hL1, hL2⟩ := (hL : LDo P Γ an N b ∧ LOk P Γ an N (loopsOf b))
    split at h
    · rename_i le hle
      unfold useSum at h
      cases hr : le.run s1 with
      | none => rw [hr] at h; cases h
      | some x =>
        rw [hr] at h
        simp only [obind] at h
        obtain ⟨y, hy, h⟩ := run_some.1 h
        obtain ⟨n, hn⟩ := hL1 le hle s1 x hr
        rw [hy] at hn
        refine wp_loop_rounds n (loop_sound (fun s s1 a w hs hn => norm_sound hC hs hn) (fun e s s1 a w hs hn => norm_sound hC hs hn) (fun s a w k Q hs hb hk => ev_sound hm hΓ hC b hL2 s a w k Q hs hb hk) (fun e s' a' w' hs' he => ?_) n s1 a w hs1 hn)
        simp only [Option.some.injEq] at he
        subst he
        exact hk e s' a' w' hs' h
    · exact wp_loop_rounds N (loop_sound (fun s s1 a w hs hn => norm_sound hC hs hn) (fun e s s1 a w hs hn => norm_sound hC hs hn) (fun s a w k Q hs hb hk => ev_sound hm hΓ hC b hL2 s a w k Q hs hb hk) hk N s1 a w hs1 h)
  | .exit id, hL, _, _, s, a, w, k, Q, hs, h, hk => wp_exit (hk _ _ _ _ hs h)
  | .ret, hL, _, _, s, a, w, k, Q, hs, h, hk => wp_ret (hk _ _ _ _ hs h)
  | .rangeFunc .., _, _, _, _, _, _, _, _, _, h, _ => by simp [ev] at h
  | .scope b, hL, _, _, s, a, w, k, Q, hs, h, hk => by
    simp only [ev] at h
    refine wp_scope_straight (ev_sound hm hΓ hC b hL s a w _ _ hs h fun e s' a' w' hs' hk' => ?_)
    cases e with
    | goto l => cases hk'
    | _ => exact hk _ s' a' w' hs' hk'
  | .label _, hL, _, _, s, a, w, k, Q, hs, h, hk => wp_label (hk _ _ _ _ hs h)
  | .goto _, _, _, _, _, _, _, _, _, _, h, _ => by simp [ev] at h
  | .refuse _, _, _, _, _, _, _, _, _, _, h, _ => by simp [ev] at h

/-! ### Results -/

variable {g : Nat → Lab} {β : Id → Option Pl} {s : AS} {a : Act} {w : World}

def resOf (tmps : Array Value) (r : ResultVar) : Sem Value :=
  match r with
  | .tmp t => pure (tmps.getD t undef)
  | .cell a t => do loadVar t (← asAddr (tmps.getD a undef))

theorem resVal_sound (h : Inv C g β s a w) {r : ResultVar} {v : AVal} (he : (resVal P s r).eval = some v) : ∃ x, (resOf a.tmps r).run P w = .ok x w ∧ VS (s.env w g β) v x := by
  cases r with
  | tmp t =>
    simp only [resVal] at he
    obtain rfl := eval_ok.1 he
    exact ⟨_, by simp [resOf], h.slots t⟩
  | cell t T =>
    simp only [resVal] at he
    obtain ⟨ad, z, hy, hr, hv⟩ := load_sound h (h.slots t) he
    exact ⟨z, by simp [resOf, hy, asAddr, hr], hv⟩

theorem resOne_sound (h : Inv C g β s a w) {r : ResultVar} {o : Option Ty} {y : AS × AVal} (he : (resOne P s r o).eval = some y) :
    ∃ x g', (resOf a.tmps r).run P w = .ok x w ∧ Inv C g' β y.1 a w ∧ EnvLe (s.env w g β) (y.1.env w g' β) ∧ VS (y.1.env w g' β) y.2 x := by
  cases o with
  | none =>
    simp only [resOne] at he
    obtain ⟨v, h1, h2⟩ := eval_bind.1 he
    obtain rfl := eval_ok.1 h2
    obtain ⟨x, hx, hv⟩ := resVal_sound h h1
    exact ⟨x, g, hx, h, EnvLe.refl _, hv⟩
  | some t =>
    simp only [resOne] at he
    obtain ⟨v, h1, h2⟩ := eval_bind.1 he
    obtain ⟨d, h3, h4⟩ := eval_bind.1 h2
    obtain rfl := eval_ok.1 h4
    obtain ⟨x, hx, hv⟩ := resVal_sound h h1
    obtain ⟨g', i1, e1, _, cs, hR, hO⟩ := toTy_sound h hv h3
    exact ⟨x, g', hx, i1, e1, VS.of (a := .d t d) (cs := cs) (by simpa only [V] using hR) hO⟩

theorem resVals_sound : ∀ (l : List ResultVar) (ts : List (Option Ty)) {s : AS} {g : Nat → Lab} (_ : Inv C g β s a w) {y : AS × AVal}, (resVals P s l ts).eval = some y →
    ∃ (xs : List Value) (g' : Nat → Lab), (l.mapM (resOf a.tmps)).run P w = .ok xs w ∧ Inv C g' β y.1 a w ∧ EnvLe (s.env w g β) (y.1.env w g' β) ∧ VC (y.1.env w g' β) y.2 xs ∧ xs.length = l.length
  | [], ts, s, g, h, y, he => by
    simp only [resVals] at he
    obtain rfl := eval_ok.1 he
    exact ⟨[], g, by simp, h, EnvLe.refl _, by simp [VC], rfl⟩
  | r :: l, ts, s, g, h, y, he => by
    simp only [resVals] at he
    obtain ⟨u, h1, h2⟩ := eval_bind.1 he
    obtain ⟨hc, h2⟩ := eval_guard.1 h2
    obtain ⟨us, h3, h4⟩ := eval_bind.1 h2
    obtain rfl := eval_ok.1 h4
    obtain ⟨x, g1, hx, i1, e1, hv⟩ := resOne_sound h h1
    obtain ⟨xs, g2, hxs, i2, e2, hvs, hl⟩ := resVals_sound l ts.tail i1 h3
    obtain ⟨cs, hV, hO⟩ := (hv.mono e2).celled hc
    refine ⟨x :: xs, g2, ?_, i2, e1.trans e2, by simp only [VC]; exact ⟨x, xs, cs, rfl, hV, hO, hvs⟩, by simp [hl]⟩
    simp only [List.mapM_cons, Sem.run_bind, hx, Result.andThen_ok, hxs, Sem.run_pure]

theorem VS_tuple {E : Env} {v : AVal} {xs : List Value} (h : VC E v xs) : VS E v (.tuple xs.toArray) := by
  cases v <;> first
    | (simp only [VC] at h; done)
    | exact ⟨xs, rfl, h⟩
    | (simp only [VC] at h; subst h; rfl)

theorem resultA_sound (h : Inv C g β s a w) {fn : Func} {ts : List (Option Ty)} {y : AS × AVal} (he : (resultA P fn ts s).eval = some y) :
    ∃ x g', (results fn a.tmps).run P w = .ok x w ∧ Inv C g' β y.1 a w ∧ VS (y.1.env w g' β) y.2 x := by
  have key : ∀ xs : List Value, (fn.results.toList.mapM (resOf a.tmps)).run P w = .ok xs w → (results fn a.tmps).run P w = .ok (if h : xs.length = 1 then xs[0] else .tuple xs.toArray) w := fun xs hxs => by
    have e : results fn a.tmps = (do
      let vs ← fn.results.mapM (resOf a.tmps)
      pure (if h : vs.size = 1 then vs[0] else .tuple vs)) := rfl
    rw [e, Array.mapM_eq_mapM_toList]
    simp only [map_eq_pure_bind, Sem.run_bind, hxs, Result.andThen_ok, Sem.run_pure]
    congr 1
  unfold resultA at he
  split at he
  · rename_i r hr
    obtain ⟨x, g', hx, hi, _, hv⟩ := resOne_sound h he
    refine ⟨x, g', ?_, hi, hv⟩
    rw [key [x] (by simp [hr, hx])]
    simp
  · rename_i rs hne
    obtain ⟨xs, g', hx, hi, _, hv, hl⟩ := resVals_sound _ _ h he
    refine ⟨.tuple xs.toArray, g', ?_, hi, VS_tuple hv⟩
    rw [key xs hx, dif_neg]
    rw [hl]
    intro h1
    obtain ⟨r, hr⟩ := List.length_eq_one_iff.1 h1
    exact hne r hr

end
end Go.Ab

/-
  Functions: what the abstract machine says of one, it does.
-/
namespace Go.Ab

def labFin (ids : List Id) : Lab → Lab
  | .own (.id (.new i j)) k => .own (.id (match idxOf (.new i j) ids with | some m => .new 0 m | none => .new 1 0)) k
  | l => l

def placeFin (β : Id → Option Pl) (ids : List Id) : Id → Option Pl
  | .old k => β (.old k)
  | .new 0 m => (ids[m]?).bind β
  | .new (_ + 1) _ => none

theorem labFin_ok {ids : List Id} {g : Nat → Lab} {b off : Nat} (h : okAt g b off) : okAt (fun b => labFin ids (g b)) b off := by
  unfold okAt at *
  simp only
  cases hg : g b with
  | free => simp [labFin]
  | own o k =>
    rw [hg] at h
    cases o with
    | foreign => exact h
    | id i => cases i <;> exact h

theorem finIds_nodup (s : AS) (v : AVal) : (s.finIds v).Nodup := (reach_nodup s _ _ _ (by simp)).filter _
theorem finIds_new {s : AS} {v : AVal} {id : Id} (h : id ∈ s.finIds v) : ∃ i j, id = .new i j := by
  unfold AS.finIds at h
  have := (List.mem_filter.1 h).2
  cases id with
  | old k => simp [Id.isNew] at this
  | new i j => exact ⟨i, j, rfl⟩

section
variable {P : Program} {Γ : Gam} {C : Ctx} {g : Nat → Lab} {β : Id → Option Pl} {s : AS} {a : Act} {w : World}

theorem fin_sound (h : Inv C g β s a w) (hC : ∀ i j, C.E.s (.new i j) = none) {v : AVal} {x : Value} (hv : VS (s.env w g β) v x) : After C.E (s.fin v) x w := by
  unfold AS.fin
  have hn := finIds_nodup s v
  have hnew : ∀ id ∈ s.finIds v, ∃ i j, id = .new i j := fun id hid => finIds_new hid
  generalize s.finIds v = ids at hn hnew
  generalize hG : s.finAt ids v = G
  have hval : G.val = v.ren (finRef ids) := by rw [← hG]; rfl
  have hold : ∀ k, G.st.ent (.old k) = (s.ent (.old k)).map (Ent.fin ids) := fun k => by
    rw [← hG]
    show (s.olds.map (Ent.fin ids))[k]? = _
    rw [List.getElem?_map]; rfl
  have hnw : ∀ m, G.st.ent (.new 0 m) = (ids[m]?).map fun id => ((s.ent id).getD .dead).fin ids := fun m => by
    rw [← hG]
    show (ids.map fun id => ((s.ent id).getD .dead).fin ids)[m]? = _
    rw [List.getElem?_map]
  have hns : ∀ i m, G.st.ent (.new (i + 1) m) = none := fun i m => by simp [GRes.st, AS.ent]
  let g' : Nat → Lab := fun b => labFin ids (g b)
  let β' := placeFin β ids
  have hfin : ∀ e ver fr c, Ent.fin ids e = .obj ver fr c → ∃ c0, e = .obj ver fr c0 ∧ c = c0.ren (finRef ids) := fun e ver fr c he => by
    cases e with
    | dead => cases he
    | obj v0 fr0 c0 =>
      simp only [Ent.fin, Ent.obj.injEq] at he
      obtain ⟨rfl, rfl, rfl⟩ := he
      exact ⟨c0, rfl, rfl⟩
  have hle : RenLe (finRef ids) (s.env w g β) (G.st.env w g' β') := by
    refine ⟨⟨fun b off v ⟨h1, h2⟩ => ⟨h1, labFin_ok h2⟩, fun b ob h1 h2 => ⟨by show labFin ids (g b) = .free; have h1 : g b = .free := h1; rw [h1]; rfl, h2⟩⟩, fun id ver r hr hb => ?_⟩
    obtain ⟨hb1, hb2⟩ := hb
    have hb1 : s.ent id ≠ none := hb1
    have hb2 : ∀ v fr c, s.ent id = some (.obj v fr c) → ver ≤ v := hb2
    cases id with
    | old k =>
      simp only [finRef, Option.some.injEq] at hr
      subst hr
      refine ⟨⟨?_, fun v fr c hh => ?_⟩, fun ⟨fr, c, hh⟩ => ⟨?_, rfl⟩⟩
      · show G.st.ent (.old k) ≠ none
        rw [hold]; simpa using hb1
      · have hh : G.st.ent (.old k) = some (.obj v fr c) := hh
        rw [hold, Option.map_eq_some_iff] at hh
        obtain ⟨e, he, hh⟩ := hh
        obtain ⟨c0, rfl, _⟩ := hfin _ _ _ _ hh
        exact hb2 v fr c0 he
      · have hh : G.st.ent (.old k) = some (.obj ver fr c) := hh
        rw [hold, Option.map_eq_some_iff] at hh
        obtain ⟨e, he, hh⟩ := hh
        obtain ⟨c0, rfl, _⟩ := hfin _ _ _ _ hh
        exact ⟨fr, c0, he⟩
    | new i j =>
      simp only [finRef] at hr
      split at hr
      · rename_i m hm
        simp only [Option.some.injEq] at hr
        subst hr
        have hid := idxOf_some hm
        obtain ⟨e, he⟩ := Option.ne_none_iff_exists'.1 hb1
        have hg : G.st.ent (.new 0 m) = some (e.fin ids) := by rw [hnw, hid]; simp [he]
        refine ⟨⟨?_, fun v fr c hh => ?_⟩, fun ⟨fr, c, hh⟩ => ⟨?_, ?_⟩⟩
        · show G.st.ent (.new 0 m) ≠ none
          rw [hg]; simp
        · have hh : G.st.ent (.new 0 m) = some (.obj v fr c) := hh
          rw [hg, Option.some.injEq] at hh
          obtain ⟨c0, rfl, _⟩ := hfin _ _ _ _ hh
          exact hb2 v fr c0 he
        · have hh : G.st.ent (.new 0 m) = some (.obj ver fr c) := hh
          rw [hg, Option.some.injEq] at hh
          obtain ⟨c0, rfl, _⟩ := hfin _ _ _ _ hh
          exact ⟨fr, c0, he⟩
        · show (ids[m]?).bind β = β (.new i j)
          rw [hid]; rfl
      · cases hr
  have htr : Trans C.E.w w C.E.g g' := by
    have h0 := h.trans
    refine ⟨h0.os, h0.tape, h0.output, h0.size, fun b hb => ?_⟩
    have h1 := h0.blk b hb
    show match C.E.g b with | .free => labFin ids (g b) = .free ∧ _ | .own .foreign k => labFin ids (g b) = .own .foreign k ∧ _ | .own (.id _) k => (labFin ids (g b) = .free ∨ ∃ i k', labFin ids (g b) = .own (.id i) k' ∧ k ≤ k') ∧ _
    cases hgb : C.E.g b with
    | free => simp only [hgb] at h1 ⊢; rw [h1.1]; exact ⟨rfl, h1.2⟩
    | own o k => cases o with
      | foreign => simp only [hgb] at h1 ⊢; rw [h1.1]; exact ⟨rfl, h1.2⟩
      | id i =>
        simp only [hgb] at h1 ⊢
        refine ⟨?_, h1.2⟩
        rcases h1.1 with h2 | ⟨i', k', h2, h3⟩
        · rw [h2]; exact .inl rfl
        · rw [h2]
          right
          cases i' with
          | old m => exact ⟨_, k', rfl, h3⟩
          | new i j => exact ⟨_, k', rfl, h3⟩
  have hobj : Objs (G.st.env w g' β') := by
    intro id ver fr c hid
    have hid : G.st.ent id = some (.obj ver fr c) := hid
    cases id with
    | old k =>
      rw [hold, Option.map_eq_some_iff] at hid
      obtain ⟨e, he, hid⟩ := hid
      obtain ⟨c0, rfl, rfl⟩ := hfin _ _ _ _ hid
      refine ObjR_ren hle (h.objs (.old k) ver fr c0 he) rfl fun pl _ => ⟨rfl, fun n hg => ?_, fun hg => ?_⟩
      · have hg : g pl.b = .own (.id (.old k)) n := hg
        show labFin ids (g pl.b) = _
        rw [hg]; rfl
      · have hg : g pl.b = .free := hg
        show labFin ids (g pl.b) = _
        rw [hg]; rfl
    | new i m =>
      cases i with
      | succ i => rw [hns] at hid; cases hid
      | zero =>
        rw [hnw, Option.map_eq_some_iff] at hid
        obtain ⟨id0, hid0, hid⟩ := hid
        obtain ⟨c0, he, rfl⟩ := hfin _ _ _ _ hid
        have hent : s.ent id0 = some (.obj ver fr c0) := by
          cases hs : s.ent id0 with
          | none => rw [hs] at he; cases he
          | some e => rw [hs] at he; simp only [Option.getD_some] at he; rw [he]
        obtain ⟨i0, j0, rfl⟩ := hnew id0 (List.mem_of_getElem? hid0)
        refine ObjR_ren hle (h.objs (.new i0 j0) ver fr c0 hent) (by show (ids[m]?).bind β = _; rw [hid0]; rfl) fun pl _ => ⟨rfl, fun n hg => ?_, fun hg => ?_⟩
        · have hg : g pl.b = .own (.id (.new i0 j0)) n := hg
          show labFin ids (g pl.b) = _
          rw [hg]
          simp only [labFin, idxOf_nodup hn hid0]
        · have hg : g pl.b = .free := hg
          show labFin ids (g pl.b) = _
          rw [hg]; rfl
  have ho : ∀ id ver, C.E.bnd id ver → ∃ k, id = .old k := fun id ver hb => by
    cases id with
    | old k => exact ⟨k, rfl⟩
    | new i j => exact absurd (hC i j) hb.1
  refine ⟨g', β', by rw [hval]; exact VS_ren hle hv, hobj, htr, Trans.mem (E := C.E) (E' := G.st.env w g' β') htr, fun id ver hb => ?_, fun id ver hb hc => ?_⟩
  · obtain ⟨k, rfl⟩ := ho id ver hb
    exact (hle.ref (.old k) ver (.old k, ver) rfl (h.le.bnd _ _ hb)).1
  · obtain ⟨k, rfl⟩ := ho id ver hb
    obtain ⟨h1, h2⟩ := (hle.ref (.old k) ver (.old k, ver) rfl (h.le.bnd _ _ hb)).2 hc
    obtain ⟨h3, h4⟩ := h.le.cur _ _ hb h1
    exact ⟨h3, h2.trans h4⟩

theorem VSs.len {E : Env} : ∀ {as : List AVal} {vs : List Value}, VSs E as vs → as.length = vs.length
  | [], [], _ => rfl
  | _ :: _, _ :: _, ⟨_, h⟩ => by simp [VSs.len h]
  | [], _ :: _, h => h.elim
  | _ :: _, [], h => h.elim

theorem VSs.get {E : Env} : ∀ {as : List AVal} {vs : List Value}, VSs E as vs → ∀ i, VS E (as.getD i .undef) (vs.getD i undef)
  | [], [], _, i => by simpa using VS.undef
  | _ :: _, _ :: _, ⟨h, _⟩, 0 => by simpa using h
  | _ :: _, _ :: _, ⟨_, h⟩, i + 1 => by simpa using VSs.get h i
  | [], _ :: _, h, _ => h.elim
  | _ :: _, [], h, _ => h.elim

theorem start_inv {w : World} {g : Nat → Lab} {β : Id → Option Pl} {fn : Func} {args : List AVal} {olds : List Ent} {vals : List Value} (hv : VSs ((lent olds).env w g β) args vals) (ho : Objs ((lent olds).env w g β)) :
    Inv ⟨(lent olds).env w g β⟩ g β (start fn args olds) { tmps := vals.toArray ++ Array.replicate (fn.ntmps - vals.toArray.size) undef, defers := [] } w := by
  have hl := hv.len
  have hent : (start fn args olds).ent = (lent olds).ent := by
    funext id
    cases id with
    | old k => rfl
    | new i j =>
      simp only [start, lent, AS.ent, List.getD_eq_getElem?_getD, List.getElem?_replicate]
      split <;> simp
  have henv : (start fn args olds).env w g β = (lent olds).env w g β := by simp only [AS.env, hent]
  refine ⟨rfl, by simp [start, hl], fun i => ?_, by rw [henv]; exact ho, Trans.refl _ _, by rw [henv]; exact EnvLe.refl _⟩
  rw [henv]
  have h1 : (start fn args olds).slot i = args.getD i .undef := by
    simp only [start, AS.slot, List.getD_eq_getElem?_getD, List.getElem?_append, List.getElem?_replicate]
    split
    · rfl
    · rw [List.getElem?_eq_none (l := args) (by omega)]
      split <;> rfl
  have h2 : (vals.toArray ++ Array.replicate (fn.ntmps - vals.toArray.size) undef).getD i undef = vals.getD i undef := by
    simp only [Array.getD_eq_getD_getElem?, List.getD_eq_getElem?_getD, Array.getElem?_append, Array.getElem?_replicate]
    simp only [List.size_toArray, List.getElem?_toArray]
    split
    · rfl
    · rw [List.getElem?_eq_none (l := vals) (by omega)]
      split <;> rfl
  rw [h1, h2]
  exact hv.get i

/-- An entry holds, if the abstract machine says so. -/
theorem Does.of_run (hm : P.follows .mixedOrders = true) (hΓ : Sound P Γ) {f : FuncId} {fn : Func} (hf : P.funcs[f]? = some fn) (hb : fn.body.isSome = true) (hname : (fn.name == "runtime.NumGoroutine") = false) {en : Entry} {an : Ann} {N : Nat} (hL : ∀ c, fn.body = some c → LOk P Γ an N (loopsOf c))
    (h : ∀ args olds x, en.run args olds = some x → arun P Γ an N fn args olds some = some (en.out args olds x)) : Does P f en := by
  intro w g β args olds vals x hv ho hx
  left
  obtain ⟨c, hc⟩ := Option.isSome_iff_exists.1 hb
  refine ⟨?_, ?_⟩
  · unfold callFunc
    have hname' : ¬ fn.name = "runtime.NumGoroutine" := by simpa using hname
    simp [hf, hname', hc]
  · have hN := h args olds x hx
    unfold arun at hN
    rw [hc] at hN
    simp only at hN
    have hC : ∀ i j, ((lent olds).env w g β).s (.new i j) = none := fun i j => by simp [AS.env, lent, AS.ent]
    refine calls_of_wp hf hc (ev_sound (C := ⟨(lent olds).env w g β⟩) hm hΓ hC c (hL c hc) _ _ w _ _ ⟨g, β, start_inv hv ho⟩ hN fun e s' a' w' hs' hk' => ?_)
    have fin : (finish P an fn s').run (fun v => some v) = some (en.out args olds x) → a'.defers = [] ∧ ∃ v, (results fn a'.tmps).run P w' = .ok v w' ∧ ∃ u, Ending.returned v = .returned u ∧ After ((lent olds).env w g β) (en.out args olds x) u w' := fun hr => by
      obtain ⟨G, h1, h2⟩ := run_some.1 hr
      simp only [Option.some.injEq] at h2
      subst h2
      unfold finish at h1
      obtain ⟨sd, h0d, h1⟩ := eval_bind.1 h1
      obtain ⟨s2, h3, h4⟩ := eval_bind.1 h1
      obtain ⟨s3, h4a, h4⟩ := eval_bind.1 h4
      obtain ⟨y, h5, h6⟩ := eval_bind.1 h4
      obtain ⟨g0, β0, hi0⟩ := dats_sound _ hs' h0d
      obtain ⟨g', β', hi⟩ := trim_sound _ (promote_sound hC _ ⟨g0, β0, hi0.drop _⟩ h3) h4a
      obtain ⟨z, g2, h7, h8, h9⟩ := resultA_sound hi h5
      refine ⟨hi.defers, z, h7, z, rfl, ?_⟩
      rw [← eval_ok.1 h6]
      exact fin_sound h8 hC h9
    cases e with
    | normal => exact fin hk'
    | ret => exact fin hk'
    | _ => cases hk'

end
end Go.Ab

/-
  Entries out of specifications; names for what is computed.
-/
namespace Go.Ab

/-! ### Numbers -/

def icv (k : IntKind) (n : Int) : Int := k.wrap n
def iadd (k : IntKind) (x y : Int) : Int := k.wrap (x + y)
def isub (k : IntKind) (x y : Int) : Int := k.wrap (x - y)
def imul (k : IntKind) (x y : Int) : Int := k.wrap (x * y)
def iquo (k : IntKind) (x y : Int) : Int := k.wrap (x.tdiv y)
def irem (x y : Int) : Int := x.tmod y
def ishl (k : IntKind) (x y : Int) : Int := k.wrap (x * 2 ^ (min y.toNat k.bits))
def ishr (k : IntKind) (x y : Int) : Int := x.fdiv (2 ^ (min y.toNat k.bits))
def ineg (k : IntKind) (x : Int) : Int := k.wrap (0 - x)
def inot (k : IntKind) (x : Int) : Int := bitop .xor k (if k.signed then -1 else k.max) x
def ieq (x y : Int) : Bool := x == y
def ine (x y : Int) : Bool := x != y
def ilt (x y : Int) : Bool := decide (x < y)
def ile (x y : Int) : Bool := decide (x ≤ y)
def igt (x y : Int) : Bool := decide (x > y)
def ige (x y : Int) : Bool := decide (x ≥ y)
def seq (x y : ByteArray) : Bool := x.toList == y.toList
def sne (x y : ByteArray) : Bool := !(x.toList == y.toList)
def slt (x y : ByteArray) : Bool := Op.bytesLess x.toList y.toList
def sge (x y : ByteArray) : Bool := !(Op.bytesLess x.toList y.toList)
def sidx (a : ByteArray) (i : Int) : Int := ((a.data.toList.getD i.toNat 0).toNat : Int)
def slen (a : ByteArray) : Int := (a.size : Int)
def llen {α : Type} (l : List α) : Int := (l.length : Int)
def imin (x y : Int) : Int := if y < x then y else x
def imax (x y : Int) : Int := if x < y then y else x
/-- An index within n elements. -/
def inb (i n : Int) : Bool := decide (0 ≤ i ∧ i < n)
/-- A bound within n elements. -/
def inc (i n : Int) : Bool := decide (0 ≤ i ∧ i ≤ n)
def nonneg (y : Int) : Bool := decide (0 ≤ y)
def nonzero (y : Int) : Bool := !(decide (y = 0))

/-! ### Entries -/

open Classical in
noncomputable def LEntry.of {D X : Type} (st : D → AS) (Pre : D → Prop) (F : D → X) (out : X → Out (Exit × AS)) : LEntry :=
  { X, run := fun s => if h : ∃ d, st d = s ∧ Pre d then some (F h.choose) else none, out }

open Classical in
theorem LEntry.of_run {D X : Type} {st : D → AS} {Pre : D → Prop} {F : D → X} {out : X → Out (Exit × AS)} (hinj : ∀ d d', st d = st d' → d = d') {d : D} (h : Pre d) : (LEntry.of st Pre F out).run (st d) = some (F d) := by
  have hex : ∃ d', st d' = st d ∧ Pre d' := ⟨d, rfl, h⟩
  show (if h : ∃ d', st d' = st d ∧ Pre d' then some (F h.choose) else none) = _
  rw [dif_pos hex, hinj _ _ hex.choose_spec.1]

open Classical in
noncomputable def Join.of {X : Type} (an : LoopAnn) (st : X → AS) : Join :=
  { an, X, inn := fun e s => if h : e = .normal ∧ ∃ x, st x = s then some h.2.choose else none, out := fun x => .ok (.normal, st x),
    ok := fun e s x h => by
      by_cases h1 : e = .normal ∧ ∃ x, st x = s
      · rw [dif_pos h1] at h
        have h2 := h1.2.choose_spec
        rw [Option.some.inj h] at h2
        rw [h1.1, ← h2]
        rfl
      · rw [dif_neg h1] at h; cases h }

open Classical in
theorem Join.of_inn {X : Type} {an : LoopAnn} {st : X → AS} (hinj : ∀ d d', st d = st d' → d = d') (x : X) : (Join.of an st).inn .normal (st x) = some x := by
  have hex : Exit.normal = .normal ∧ ∃ y, st y = st x := ⟨rfl, x, rfl⟩
  show (if h : Exit.normal = .normal ∧ ∃ y, st y = st x then some h.2.choose else none) = _
  rw [dif_pos hex, hinj _ _ hex.2.choose_spec]

open Classical in
theorem LDo.of {P : Program} {Γ : Gam} {an : Ann} {N : Nat} {fn : Func} {i : Nat} {D X : Type} {st : D → AS} {Pre : D → Prop} {F : D → X} {out : X → Out (Exit × AS)}
    (hle : an.sums (firstRegion (fnLoop fn i)) = some (LEntry.of st Pre F out)) (h : ∀ d, Pre d → ∃ n, lrun P Γ an N fn i n (st d) (fun e s => some (e, s)) = (out (F d)).eval) : LDo P Γ an N (fnLoop fn i) := by
  intro le hle' s x hx
  rw [hle] at hle'
  simp only [Option.some.injEq] at hle'
  subst hle'
  change (if h : ∃ d', st d' = s ∧ Pre d' then some (F h.choose) else none) = some x at hx
  split at hx
  · rename_i hex
    obtain rfl := Option.some.inj hx
    obtain ⟨h1, h2⟩ := hex.choose_spec
    obtain ⟨n, hn⟩ := h _ h2
    refine ⟨n, ?_⟩
    show lrun P Γ an N fn i n s _ = _
    rw [h1] at hn
    exact hn
  · cases hx

theorem lrun_succ (P : Program) (Γ : Gam) (an : Ann) (N : Nat) (fn : Func) (i : Nat) {R : Type} (n : Nat) (s : AS) (k : Exit → AS → Option R) :
    lrun P Γ an N fn i (n + 1) s k = lround P Γ an N fn i s (fun s1 => lrun P Γ an N fn i n s1 k) k := rfl

/-- A loop whose rounds lower a measure. -/
theorem lrun_of {P : Program} {Γ : Gam} {an : Ann} {N : Nat} {fn : Func} {i : Nat} {D X : Type} {st : D → AS} {Pre : D → Prop} {F : D → X} {out : X → Out (Exit × AS)} (μ : D → Nat)
    (h : ∀ d, Pre d → (∃ d', Pre d' ∧ μ d' < μ d ∧ F d' = F d ∧ ∀ {R : Type} (kn : AS → Option R) (kx : Exit → AS → Option R), lround P Γ an N fn i (st d) kn kx = kn (st d')) ∨
      (∃ r, (out (F d)).eval = some r ∧ ∀ {R : Type} (kn : AS → Option R) (kx : Exit → AS → Option R), lround P Γ an N fn i (st d) kn kx = kx r.1 r.2)) :
    ∀ d, Pre d → ∃ n, lrun P Γ an N fn i n (st d) (fun e s => some (e, s)) = (out (F d)).eval := by
  have key : ∀ m d, μ d = m → Pre d → ∃ n, lrun P Γ an N fn i n (st d) (fun e s => some (e, s)) = (out (F d)).eval := by
    intro m
    induction m using Nat.strongRecOn with
    | _ m ih =>
      intro d hm hp
      rcases h d hp with ⟨d', hp', hlt, hF, hr⟩ | ⟨r, hr, hx⟩
      · obtain ⟨n, hn⟩ := ih (μ d') (by omega) d' rfl hp'
        exact ⟨n + 1, by rw [lrun_succ, hr, hn, hF]⟩
      · exact ⟨1, by rw [lrun_succ, hx, hr]⟩
  exact fun d hp => key _ d rfl hp

/-- A loop with one exit. -/
theorem lrun_one {P : Program} {Γ : Gam} {an : Ann} {N : Nat} {fn : Func} {i : Nat} {D X : Type} {st : D → AS} {Pre : D → Prop} {F : D → X} {ex : X → Exit × AS} (μ : D → Nat)
    (h : ∀ d, Pre d → (∃ d', Pre d' ∧ μ d' < μ d ∧ F d' = F d ∧ ∀ {R : Type} (kn : AS → Option R) (kx : Exit → AS → Option R), lround P Γ an N fn i (st d) kn kx = kn (st d')) ∨
      (∀ {R : Type} (kn : AS → Option R) (kx : Exit → AS → Option R), lround P Γ an N fn i (st d) kn kx = kx (ex (F d)).1 (ex (F d)).2)) :
    ∀ d, Pre d → ∃ n, lrun P Γ an N fn i n (st d) (fun e s => some (e, s)) = (Out.ok (ex (F d))).eval :=
  lrun_of (out := fun x => .ok (ex x)) μ fun d hp => (h d hp).imp id fun h => ⟨_, rfl, h⟩

open Classical in
noncomputable def Entry.of {D X : Type} (params : List (Option Ty)) (st : D → List AVal × List Ent) (Pre : D → Prop) (F : D → X) (out : X → GRes) : Entry :=
  { params, X, run := fun args olds => if h : ∃ d, st d = (args, olds) ∧ Pre d then some (F h.choose) else none, out := fun _ _ => out }

open Classical in
theorem Entry.of_run {D X : Type} {params : List (Option Ty)} {st : D → List AVal × List Ent} {Pre : D → Prop} {F : D → X} {out : X → GRes} (hinj : ∀ d d', st d = st d' → d = d') {d : D} (h : Pre d) :
    (Entry.of params st Pre F out).run (st d).1 (st d).2 = some (F d) := by
  have hex : ∃ d', st d' = ((st d).1, (st d).2) ∧ Pre d' := ⟨d, rfl, h⟩
  show (if h : ∃ d', st d' = ((st d).1, (st d).2) ∧ Pre d' then some (F h.choose) else none) = _
  rw [dif_pos hex, hinj _ _ hex.choose_spec.1]

open Classical in
theorem Does.of {P : Program} {Γ : Gam} (hm : P.follows .mixedOrders = true) (hΓ : Sound P Γ) {f : FuncId} {fn : Func} (hf : P.funcs[f]? = some fn) (hb : fn.body.isSome = true) (hname : (fn.name == "runtime.NumGoroutine") = false) {an : Ann} {N : Nat}
    (hL : ∀ c, fn.body = some c → LOk P Γ an N (loopsOf c)) {D X : Type} {params : List (Option Ty)} {st : D → List AVal × List Ent} {Pre : D → Prop} {F : D → X} {out : X → GRes}
    (h : ∀ d, Pre d → arun P Γ an N fn (st d).1 (st d).2 some = some (out (F d))) : Does P f (Entry.of params st Pre F out) := by
  refine Does.of_run hm hΓ hf hb hname hL fun args olds x hx => ?_
  change (if h : ∃ d', st d' = (args, olds) ∧ Pre d' then some (F h.choose) else none) = some x at hx
  split at hx
  · rename_i hex
    obtain rfl := Option.some.inj hx
    obtain ⟨h1, h2⟩ := hex.choose_spec
    have := h _ h2
    rw [h1] at this
    exact this
  · cases hx

def LAt (P : Program) (Γ : Gam) (an : Ann) (N : Nat) (fn : Func) : Nat → Nat → Prop
  | 0, _ => True
  | n + 1, i => LDo P Γ an N (fnLoop fn i) ∧ LAt P Γ an N fn n (i + 1)

theorem LAt.get {P : Program} {Γ : Gam} {an : Ann} {N : Nat} {fn : Func} : ∀ {n i : Nat}, LAt P Γ an N fn n i → ∀ j, j < n → LDo P Γ an N (fnLoop fn (i + j))
  | 0, _, _, j, hj => by omega
  | n + 1, i, h, 0, _ => h.1
  | n + 1, i, h, j + 1, hj => by
    have := LAt.get h.2 j (by omega)
    rwa [show i + 1 + j = i + (j + 1) by omega] at this

theorem LOk.of_all {P : Program} {Γ : Gam} {an : Ann} {N : Nat} : ∀ (l : List Code), (∀ j, j < l.length → LDo P Γ an N (l.getD j .skip)) → LOk P Γ an N l
  | [], _ => trivial
  | b :: l, h => ⟨h 0 (by simp), LOk.of_all l fun j hj => by have := h (j + 1) (by simpa using hj); simpa using this⟩

theorem LOk.fn {P : Program} {Γ : Gam} {an : Ann} {N : Nat} {fn : Func} (n : Nat) (hn : (match fn.body with | some c => (loopsOf c).length | none => 0) = n) (h : LAt P Γ an N fn n 0) : ∀ c, fn.body = some c → LOk P Γ an N (loopsOf c) := by
  intro c hc
  refine LOk.of_all _ fun j hj => ?_
  rw [hc] at hn
  simp only at hn
  have := h.get j (by omega)
  unfold fnLoop at this
  rw [hc] at this
  simpa using this

theorem LDo.none {P : Program} {Γ : Gam} {an : Ann} {N : Nat} {fn : Func} {i : Nat} (h : an.sums (firstRegion (fnLoop fn i)) = none) : LDo P Γ an N (fnLoop fn i) := fun le hle => by
  rw [h] at hle; cases hle

def gnil : Gam := fun _ _ => none
theorem Sound.nil (P : Program) : Sound P gnil := fun _ _ _ h => by cases h
def gcons (f : FuncId) (p : List AVal → Bool) (en : Entry) (Γ : Gam) : Gam := fun g vs => match Nat.beq g f with | true => (match p vs with | true => some en | false => Γ g vs) | false => Γ g vs
theorem Sound.cons {P : Program} {f : FuncId} {p : List AVal → Bool} {en : Entry} {Γ : Gam} (h : Does P f en) (hΓ : Sound P Γ) : Sound P (gcons f p en Γ) := fun g vs e hg => by
  unfold gcons at hg
  split at hg
  · rename_i he
    have : g = f := Nat.eq_of_beq_eq_true he
    split at hg
    · simp only [Option.some.injEq] at hg
      subst hg this
      exact h
    · exact hΓ g vs e hg
  · exact hΓ g vs e hg

/-! ### Getters -/

def prA : AVal → AVal | .pr a _ => a | v => v
def prB : AVal → AVal | .pr _ b => b | v => v
def capN (n : Nat) : AVal → AVal | .fn _ c => c.list.getD n .undef | v => v.list.getD n .undef
def bxC : AVal → AVal | .bx _ c => c | v => v
def entC : Option Ent → AVal | some (.obj _ _ c) => c | _ => .undef
def entD : Ent → AVal | .obj _ _ c => c | .dead => .undef
def srefLen : AVal → Nat | .sref _ _ _ _ _ n => n | _ => 0
theorem d_inj {t : Ty} {x y : t.den} (h : AVal.d t x = AVal.d t y) : x = y := by
  injection h with _ h
theorem rptr_inj {t : Ty} {x y : t.den} (h : AVal.rptr t x = AVal.rptr t y) : x = y := by
  injection h with _ h
theorem vec_inj {e : TypeId} {t : Ty} {x y : List t.den} (h : AVal.vec e t x = AVal.vec e t y) : x = y := by
  injection h with _ _ h

/-- By the shape of the first value. -/
def anyArgs : List AVal → Bool := fun _ => true
def nilsFirst : List AVal → Bool | .nils :: _ => true | _ => false
def srefFirst : List AVal → Bool | .sref .. :: _ => true | _ => false
def dataFirst : List AVal → Bool | .d .. :: _ => true | _ => false

@[simp] theorem sel_true {α : Type} (x y : Option α) : sel true x y = x := rfl
@[simp] theorem sel_false {α : Type} (x y : Option α) : sel false x y = y := rfl
@[simp] theorem obind_some {α β : Type} (x : α) (f : α → Option β) : obind (some x) f = f x := rfl
@[simp] theorem nd_same {α : Type} (x : Option α) : nd x x = x := by simp [nd]
theorem sel_if {α : Type} (c : Bool) (x y : Option α) : sel c x y = if c then x else y := by cases c <;> rfl

end Go.Ab
