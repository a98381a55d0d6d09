/-
  Texts put together: Ab26, Ab29, Ab30, Sp0.
-/
import Derived.Test.YtglpcfdjdabdnaaGreatMc2
import Derived.Scope
import Derived.Laws.Externs
import Derived.KernelRfl
import Derived.ProofKit
import Derived.OpenShut
import Derived.Deep.Slices
import Derived.Carry
/-
  Code, results, functions: what the abstract machine says of a function, it does.
-/
namespace Go.Ab

section
variable {P : Program} {Γ : Gam} {an : Ann} {C : Ctx}

/-- What an entry says of its loop. -/
def LDo (P : Program) (Γ : Gam) (an : Ann) (N : Nat) (b : Code) : Prop :=
  ∀ le, an.sums (firstRegion b) = some le → ∀ s x, le.run s = some x →
    ∃ n, loopS (norm P (an.loops (firstRegion b))) (fun e => norm P (an.outs (firstRegion b) (isRet e))) (ev P Γ an N b) n s (fun e s' => some (e, s')) = (le.out x).eval

def LOk (P : Program) (Γ : Gam) (an : Ann) (N : Nat) : List Code → Prop
  | [] => True
  | b :: l => LDo P Γ an N b ∧ LOk P Γ an N l

theorem LOk.append {N : Nat} : ∀ {l l' : List Code}, LOk P Γ an N (l ++ l') → LOk P Γ an N l ∧ LOk P Γ an N l'
  | [], _, h => ⟨trivial, h⟩
  | _ :: _, _, ⟨h1, h2⟩ => ⟨⟨h1, (LOk.append h2).1⟩, (LOk.append h2).2⟩

theorem loop_sound {R : Type} {r : R} {b : Code} {nrm : AS → Out AS} {nrmX : Exit → AS → Out AS} {body : AS → (Exit → AS → Option R) → Option R}
    (hn : ∀ s s1 a w, Sts C s a w → (nrm s).eval = some s1 → Sts C s1 a w) (hx : ∀ e s s1 a w, Sts C s a w → (nrmX e s).eval = some s1 → Sts C s1 a w)
    (hb : ∀ (s : AS) (a : Act) (w : World) (k : Exit → AS → Option R) (Q : Exit → Act → World → Prop), Sts C s a w → body s k = some r → (∀ e s' a' w', Sts C s' a' w' → k e s' = some r → Q e a' w') → b.wp P Q a w)
    {k : Exit → AS → Option R} {Q : Exit → Act → World → Prop} (hk : ∀ e s' a' w', Sts C s' a' w' → k e s' = some r → Q e a' w') :
    ∀ (n : Nat) (s : AS) (a : Act) (w : World), Sts C s a w → loopS nrm nrmX body n s k = some r → Code.rounds P b Q n a w
  | 0, s, a, w, _, h => by simp [loopS] at h
  | n + 1, s, a, w, hs, h => by
    simp only [loopS] at h
    rw [rounds_succ]
    refine hb s a w _ _ hs h fun e s' a' w' hs' hke => ?_
    have exits : ∀ e, (nrmX e s').run (k e) = some r → Q e a' w' := fun e hke => by
      obtain ⟨s1, h1, h2⟩ := run_some.1 hke
      exact hk e s1 a' w' (hx e s' s1 a' w' hs' h1) h2
    cases e with
    | normal =>
      simp only at hke
      obtain ⟨s1, h1, h2⟩ := run_some.1 hke
      exact loop_sound hn hx hb hk n s1 a' w' (hn s' s1 a' w' hs' h1) h2
    | _ => exact exits _ hke

theorem joined_sound (hC : ∀ i j, C.E.s (.new i j) = none) {j : Option Join} {run : {R : Type} → (Exit → AS → Option R) → Option R} {c : Code} {a : Act} {w : World}
    (hrun : ∀ {R : Type} {r : R} (k : Exit → AS → Option R) (Q : Exit → Act → World → Prop), run k = some r → (∀ e s' a' w', Sts C s' a' w' → k e s' = some r → Q e a' w') → c.wp P Q a w)
    {R : Type} {r : R} {k : Exit → AS → Option R} {Q : Exit → Act → World → Prop} (h : joined P j run k = some r) (hk : ∀ e s' a' w', Sts C s' a' w' → k e s' = some r → Q e a' w') : c.wp P Q a w := by
  cases j with
  | none => exact hrun k Q h hk
  | some j =>
    simp only [joined] at h
    cases hx : run fun e s => (norm P j.an s).run (j.inn e) with
    | none => rw [hx] at h; cases h
    | some x =>
      rw [hx] at h
      simp only [obind] at h
      obtain ⟨y, hy, h⟩ := run_some.1 h
      refine hrun _ Q hx fun e s' a' w' hs' hK => ?_
      obtain ⟨s1, h1, h2⟩ := run_some.1 hK
      have he := j.ok _ _ _ h2
      rw [hy, Option.some.injEq] at he
      subst he
      exact hk e s1 a' w' (norm_sound hC hs' h1) h

theorem ev_sound (hm : P.follows .mixedOrders = true) (hΓ : Sound P Γ) (hC : ∀ i j, C.E.s (.new i j) = none) {N : Nat} : ∀ (c : Code), LOk P Γ an N (loopsOf c) → ∀ {R : Type} {r : R} (s : AS) (a : Act) (w : World) (k : Exit → AS → Option R) (Q : Exit → Act → World → Prop),
    Sts C s a w → ev P Γ an N c s k = some r → (∀ e s' a' w', Sts C s' a' w' → k e s' = some r → Q e a' w') → c.wp P Q a w
  | .skip, hL, _, _, s, a, w, k, Q, hs, h, hk => wp_skip (hk _ _ _ _ hs h)
  | .region id ops draw, hL, _, _, s, a, w, k, Q, hs, h, hk => by
    simp only [ev] at h
    refine joined_sound hC (fun k Q h hk => ?_) h hk
    cases draw with
    | true =>
      simp only at h
      split at h
      · rename_i hE
        exact region_draw hm hΓ hs hE h fun s' a' w' hs' hk' => hk _ _ _ _ hs' hk'
      · cases h
    | false => exact wp_region_list (gops_wpList hΓ ops.toList hs h fun s' a' w' hs' hk' => hk _ _ _ _ hs' hk')
  | .seq x y, hL, _, _, s, a, w, k, Q, hs, h, hk => by
    simp only [ev] at h
    refine wp_seq (joined_sound hC (fun k Q h hk => ev_sound hm hΓ hC x hL.append.1 s a w k Q hs h hk) h fun e s' a' w' hs' hk' => ?_)
    cases e with
    | normal => exact ev_sound hm hΓ hC y hL.append.2 s' a' w' k Q hs' hk' hk
    | _ => exact hk _ s' a' w' hs' hk'
  | .cond c x y, hL, _, _, s, a, w, k, Q, hs, h, hk => by
    simp only [ev] at h
    split at h
    · rename_i b hb
      have hc : a.eval c = .bool b := by
        obtain ⟨g, β, hi⟩ := hs
        have := hi.ev c
        rw [hb] at this
        exact bool_of this
      refine wp_cond hc ?_
      cases b with
      | true => exact ev_sound hm hΓ hC x hL.append.1 s a w k Q hs h hk
      | false => exact ev_sound hm hΓ hC y hL.append.2 s a w k Q hs h hk
    · cases h
  | .block id b, hL, _, _, s, a, w, k, Q, hs, h, hk => by
    simp only [ev] at h
    refine wp_block (ev_sound hm hΓ hC b hL s a w _ _ hs h fun e s' a' w' hs' hk' => ?_)
    cases e with
    | exit i =>
      simp only at hk'
      simp only [Exit.inBlock]
      by_cases hi : i = id
      · rw [if_pos hi]
        simp only [hi, decide_true] at hk'
        exact hk _ s' a' w' hs' hk'
      · rw [if_neg hi]
        simp only [hi, decide_false] at hk'
        exact hk _ s' a' w' hs' hk'
    | _ => exact hk _ s' a' w' hs' hk'
  | .loop b, hL, R, r, s, a, w, k, Q, hs, h, hk => by
    simp only [ev] at h
    obtain ⟨s1, h1, h⟩ := run_some.1 h
    have hs1 := norm_sound hC hs h1
    obtain ⟨hL1, hL2⟩ := (hL : LDo P Γ an N b ∧ LOk P Γ an N (loopsOf b))
    split at h
    · rename_i le hle
      unfold useSum at h
      cases hr : le.run s1 with
      | none => rw [hr] at h; cases h
      | some x =>
        rw [hr] at h
        simp only [obind] at h
        obtain ⟨y, hy, h⟩ := run_some.1 h
        obtain ⟨n, hn⟩ := hL1 le hle s1 x hr
        rw [hy] at hn
        refine wp_loop_rounds n (loop_sound (fun s s1 a w hs hn => norm_sound hC hs hn) (fun e s s1 a w hs hn => norm_sound hC hs hn) (fun s a w k Q hs hb hk => ev_sound hm hΓ hC b hL2 s a w k Q hs hb hk) (fun e s' a' w' hs' he => ?_) n s1 a w hs1 hn)
        simp only [Option.some.injEq] at he
        subst he
        exact hk e s' a' w' hs' h
    · exact wp_loop_rounds N (loop_sound (fun s s1 a w hs hn => norm_sound hC hs hn) (fun e s s1 a w hs hn => norm_sound hC hs hn) (fun s a w k Q hs hb hk => ev_sound hm hΓ hC b hL2 s a w k Q hs hb hk) hk N s1 a w hs1 h)
  | .exit id, hL, _, _, s, a, w, k, Q, hs, h, hk => wp_exit (hk _ _ _ _ hs h)
  | .ret, hL, _, _, s, a, w, k, Q, hs, h, hk => wp_ret (hk _ _ _ _ hs h)
  | .rangeFunc .., _, _, _, _, _, _, _, _, _, h, _ => by simp [ev] at h
  | .scope b, hL, _, _, s, a, w, k, Q, hs, h, hk => by
    simp only [ev] at h
    refine wp_scope_straight (ev_sound hm hΓ hC b hL s a w _ _ hs h fun e s' a' w' hs' hk' => ?_)
    cases e with
    | goto l => cases hk'
    | _ => exact hk _ s' a' w' hs' hk'
  | .label _, hL, _, _, s, a, w, k, Q, hs, h, hk => wp_label (hk _ _ _ _ hs h)
  | .goto _, _, _, _, _, _, _, _, _, _, h, _ => by simp [ev] at h
  | .refuse _, _, _, _, _, _, _, _, _, _, h, _ => by simp [ev] at h

/-! ### Results -/

variable {g : Nat → Lab} {β : Id → Option Pl} {s : AS} {a : Act} {w : World}

def resOf (tmps : Array Value) (r : ResultVar) : Sem Value :=
  match r with
  | .tmp t => pure (tmps.getD t undef)
  | .cell a t => do loadVar t (← asAddr (tmps.getD a undef))

theorem resVal_sound (h : Inv C g β s a w) {r : ResultVar} {v : AVal} (he : (resVal P s r).eval = some v) : ∃ x, (resOf a.tmps r).run P w = .ok x w ∧ VS (s.env w g β) v x := by
  cases r with
  | tmp t =>
    simp only [resVal] at he
    obtain rfl := eval_ok.1 he
    exact ⟨_, by simp [resOf], h.slots t⟩
  | cell t T =>
    simp only [resVal] at he
    obtain ⟨ad, z, hy, hr, hv⟩ := load_sound h (h.slots t) he
    exact ⟨z, by simp [resOf, hy, asAddr, hr], hv⟩

theorem resOne_sound (h : Inv C g β s a w) {r : ResultVar} {o : Option Ty} {y : AS × AVal} (he : (resOne P s r o).eval = some y) :
    ∃ x g', (resOf a.tmps r).run P w = .ok x w ∧ Inv C g' β y.1 a w ∧ EnvLe (s.env w g β) (y.1.env w g' β) ∧ VS (y.1.env w g' β) y.2 x := by
  cases o with
  | none =>
    simp only [resOne] at he
    obtain ⟨v, h1, h2⟩ := eval_bind.1 he
    obtain rfl := eval_ok.1 h2
    obtain ⟨x, hx, hv⟩ := resVal_sound h h1
    exact ⟨x, g, hx, h, EnvLe.refl _, hv⟩
  | some t =>
    simp only [resOne] at he
    obtain ⟨v, h1, h2⟩ := eval_bind.1 he
    obtain ⟨d, h3, h4⟩ := eval_bind.1 h2
    obtain rfl := eval_ok.1 h4
    obtain ⟨x, hx, hv⟩ := resVal_sound h h1
    obtain ⟨g', i1, e1, _, cs, hR, hO⟩ := toTy_sound h hv h3
    exact ⟨x, g', hx, i1, e1, VS.of (a := .d t d) (cs := cs) (by simpa only [V] using hR) hO⟩

theorem resVals_sound : ∀ (l : List ResultVar) (ts : List (Option Ty)) {s : AS} {g : Nat → Lab} (_ : Inv C g β s a w) {y : AS × AVal}, (resVals P s l ts).eval = some y →
    ∃ (xs : List Value) (g' : Nat → Lab), (l.mapM (resOf a.tmps)).run P w = .ok xs w ∧ Inv C g' β y.1 a w ∧ EnvLe (s.env w g β) (y.1.env w g' β) ∧ VC (y.1.env w g' β) y.2 xs ∧ xs.length = l.length
  | [], ts, s, g, h, y, he => by
    simp only [resVals] at he
    obtain rfl := eval_ok.1 he
    exact ⟨[], g, by simp, h, EnvLe.refl _, by simp [VC], rfl⟩
  | r :: l, ts, s, g, h, y, he => by
    simp only [resVals] at he
    obtain ⟨u, h1, h2⟩ := eval_bind.1 he
    obtain ⟨hc, h2⟩ := eval_guard.1 h2
    obtain ⟨us, h3, h4⟩ := eval_bind.1 h2
    obtain rfl := eval_ok.1 h4
    obtain ⟨x, g1, hx, i1, e1, hv⟩ := resOne_sound h h1
    obtain ⟨xs, g2, hxs, i2, e2, hvs, hl⟩ := resVals_sound l ts.tail i1 h3
    obtain ⟨cs, hV, hO⟩ := (hv.mono e2).celled hc
    refine ⟨x :: xs, g2, ?_, i2, e1.trans e2, by simp only [VC]; exact ⟨x, xs, cs, rfl, hV, hO, hvs⟩, by simp [hl]⟩
    simp only [List.mapM_cons, Sem.run_bind, hx, Result.andThen_ok, hxs, Sem.run_pure]

theorem VS_tuple {E : Env} {v : AVal} {xs : List Value} (h : VC E v xs) : VS E v (.tuple xs.toArray) := by
  cases v <;> first
    | (simp only [VC] at h; done)
    | exact ⟨xs, rfl, h⟩
    | (simp only [VC] at h; subst h; rfl)

theorem resultA_sound (h : Inv C g β s a w) {fn : Func} {ts : List (Option Ty)} {y : AS × AVal} (he : (resultA P fn ts s).eval = some y) :
    ∃ x g', (results fn a.tmps).run P w = .ok x w ∧ Inv C g' β y.1 a w ∧ VS (y.1.env w g' β) y.2 x := by
  have key : ∀ xs : List Value, (fn.results.toList.mapM (resOf a.tmps)).run P w = .ok xs w → (results fn a.tmps).run P w = .ok (if h : xs.length = 1 then xs[0] else .tuple xs.toArray) w := fun xs hxs => by
    have e : results fn a.tmps = (do
      let vs ← fn.results.mapM (resOf a.tmps)
      pure (if h : vs.size = 1 then vs[0] else .tuple vs)) := rfl
    rw [e, Array.mapM_eq_mapM_toList]
    simp only [map_eq_pure_bind, Sem.run_bind, hxs, Result.andThen_ok, Sem.run_pure]
    congr 1
  unfold resultA at he
  split at he
  · rename_i r hr
    obtain ⟨x, g', hx, hi, _, hv⟩ := resOne_sound h he
    refine ⟨x, g', ?_, hi, hv⟩
    rw [key [x] (by simp [hr, hx])]
    simp
  · rename_i rs hne
    obtain ⟨xs, g', hx, hi, _, hv, hl⟩ := resVals_sound _ _ h he
    refine ⟨.tuple xs.toArray, g', ?_, hi, VS_tuple hv⟩
    rw [key xs hx, dif_neg]
    rw [hl]
    intro h1
    obtain ⟨r, hr⟩ := List.length_eq_one_iff.1 h1
    exact hne r hr

end
end Go.Ab

/-
  Functions: what the abstract machine says of one, it does.
-/
namespace Go.Ab

def labFin (ids : List Id) : Lab → Lab
  | .own (.id (.new i j)) k => .own (.id (match idxOf (.new i j) ids with | some m => .new 0 m | none => .new 1 0)) k
  | l => l

def placeFin (β : Id → Option Pl) (ids : List Id) : Id → Option Pl
  | .old k => β (.old k)
  | .new 0 m => (ids[m]?).bind β
  | .new (_ + 1) _ => none

theorem labFin_ok {ids : List Id} {g : Nat → Lab} {b off : Nat} (h : okAt g b off) : okAt (fun b => labFin ids (g b)) b off := by
  unfold okAt at *
  simp only
  cases hg : g b with
  | free => simp [labFin]
  | own o k =>
    rw [hg] at h
    cases o with
    | foreign => exact h
    | id i => cases i <;> exact h

theorem finIds_nodup (s : AS) (v : AVal) : (s.finIds v).Nodup := (reach_nodup s _ _ _ (by simp)).filter _
theorem finIds_new {s : AS} {v : AVal} {id : Id} (h : id ∈ s.finIds v) : ∃ i j, id = .new i j := by
  unfold AS.finIds at h
  have := (List.mem_filter.1 h).2
  cases id with
  | old k => simp [Id.isNew] at this
  | new i j => exact ⟨i, j, rfl⟩

section
variable {P : Program} {Γ : Gam} {C : Ctx} {g : Nat → Lab} {β : Id → Option Pl} {s : AS} {a : Act} {w : World}

theorem fin_sound (h : Inv C g β s a w) (hC : ∀ i j, C.E.s (.new i j) = none) {v : AVal} {x : Value} (hv : VS (s.env w g β) v x) : After C.E (s.fin v) x w := by
  unfold AS.fin
  have hn := finIds_nodup s v
  have hnew : ∀ id ∈ s.finIds v, ∃ i j, id = .new i j := fun id hid => finIds_new hid
  generalize s.finIds v = ids at hn hnew
  generalize hG : s.finAt ids v = G
  have hval : G.val = v.ren (finRef ids) := by rw [← hG]; rfl
  have hold : ∀ k, G.st.ent (.old k) = (s.ent (.old k)).map (Ent.fin ids) := fun k => by
    rw [← hG]
    show (s.olds.map (Ent.fin ids))[k]? = _
    rw [List.getElem?_map]; rfl
  have hnw : ∀ m, G.st.ent (.new 0 m) = (ids[m]?).map fun id => ((s.ent id).getD .dead).fin ids := fun m => by
    rw [← hG]
    show (ids.map fun id => ((s.ent id).getD .dead).fin ids)[m]? = _
    rw [List.getElem?_map]
  have hns : ∀ i m, G.st.ent (.new (i + 1) m) = none := fun i m => by simp [GRes.st, AS.ent]
  let g' : Nat → Lab := fun b => labFin ids (g b)
  let β' := placeFin β ids
  have hfin : ∀ e ver fr c, Ent.fin ids e = .obj ver fr c → ∃ c0, e = .obj ver fr c0 ∧ c = c0.ren (finRef ids) := fun e ver fr c he => by
    cases e with
    | dead => cases he
    | obj v0 fr0 c0 =>
      simp only [Ent.fin, Ent.obj.injEq] at he
      obtain ⟨rfl, rfl, rfl⟩ := he
      exact ⟨c0, rfl, rfl⟩
  have hle : RenLe (finRef ids) (s.env w g β) (G.st.env w g' β') := by
    refine ⟨⟨fun b off v ⟨h1, h2⟩ => ⟨h1, labFin_ok h2⟩, fun b ob h1 h2 => ⟨by show labFin ids (g b) = .free; have h1 : g b = .free := h1; rw [h1]; rfl, h2⟩⟩, fun id ver r hr hb => ?_⟩
    obtain ⟨hb1, hb2⟩ := hb
    have hb1 : s.ent id ≠ none := hb1
    have hb2 : ∀ v fr c, s.ent id = some (.obj v fr c) → ver ≤ v := hb2
    cases id with
    | old k =>
      simp only [finRef, Option.some.injEq] at hr
      subst hr
      refine ⟨⟨?_, fun v fr c hh => ?_⟩, fun ⟨fr, c, hh⟩ => ⟨?_, rfl⟩⟩
      · show G.st.ent (.old k) ≠ none
        rw [hold]; simpa using hb1
      · have hh : G.st.ent (.old k) = some (.obj v fr c) := hh
        rw [hold, Option.map_eq_some_iff] at hh
        obtain ⟨e, he, hh⟩ := hh
        obtain ⟨c0, rfl, _⟩ := hfin _ _ _ _ hh
        exact hb2 v fr c0 he
      · have hh : G.st.ent (.old k) = some (.obj ver fr c) := hh
        rw [hold, Option.map_eq_some_iff] at hh
        obtain ⟨e, he, hh⟩ := hh
        obtain ⟨c0, rfl, _⟩ := hfin _ _ _ _ hh
        exact ⟨fr, c0, he⟩
    | new i j =>
      simp only [finRef] at hr
      split at hr
      · rename_i m hm
        simp only [Option.some.injEq] at hr
        subst hr
        have hid := idxOf_some hm
        obtain ⟨e, he⟩ := Option.ne_none_iff_exists'.1 hb1
        have hg : G.st.ent (.new 0 m) = some (e.fin ids) := by rw [hnw, hid]; simp [he]
        refine ⟨⟨?_, fun v fr c hh => ?_⟩, fun ⟨fr, c, hh⟩ => ⟨?_, ?_⟩⟩
        · show G.st.ent (.new 0 m) ≠ none
          rw [hg]; simp
        · have hh : G.st.ent (.new 0 m) = some (.obj v fr c) := hh
          rw [hg, Option.some.injEq] at hh
          obtain ⟨c0, rfl, _⟩ := hfin _ _ _ _ hh
          exact hb2 v fr c0 he
        · have hh : G.st.ent (.new 0 m) = some (.obj ver fr c) := hh
          rw [hg, Option.some.injEq] at hh
          obtain ⟨c0, rfl, _⟩ := hfin _ _ _ _ hh
          exact ⟨fr, c0, he⟩
        · show (ids[m]?).bind β = β (.new i j)
          rw [hid]; rfl
      · cases hr
  have htr : Trans C.E.w w C.E.g g' := by
    have h0 := h.trans
    refine ⟨h0.os, h0.tape, h0.output, h0.size, fun b hb => ?_⟩
    have h1 := h0.blk b hb
    show match C.E.g b with | .free => labFin ids (g b) = .free ∧ _ | .own .foreign k => labFin ids (g b) = .own .foreign k ∧ _ | .own (.id _) k => (labFin ids (g b) = .free ∨ ∃ i k', labFin ids (g b) = .own (.id i) k' ∧ k ≤ k') ∧ _
    cases hgb : C.E.g b with
    | free => simp only [hgb] at h1 ⊢; rw [h1.1]; exact ⟨rfl, h1.2⟩
    | own o k => cases o with
      | foreign => simp only [hgb] at h1 ⊢; rw [h1.1]; exact ⟨rfl, h1.2⟩
      | id i =>
        simp only [hgb] at h1 ⊢
        refine ⟨?_, h1.2⟩
        rcases h1.1 with h2 | ⟨i', k', h2, h3⟩
        · rw [h2]; exact .inl rfl
        · rw [h2]
          right
          cases i' with
          | old m => exact ⟨_, k', rfl, h3⟩
          | new i j => exact ⟨_, k', rfl, h3⟩
  have hobj : Objs (G.st.env w g' β') := by
    intro id ver fr c hid
    have hid : G.st.ent id = some (.obj ver fr c) := hid
    cases id with
    | old k =>
      rw [hold, Option.map_eq_some_iff] at hid
      obtain ⟨e, he, hid⟩ := hid
      obtain ⟨c0, rfl, rfl⟩ := hfin _ _ _ _ hid
      refine ObjR_ren hle (h.objs (.old k) ver fr c0 he) rfl fun pl _ => ⟨rfl, fun n hg => ?_, fun hg => ?_⟩
      · have hg : g pl.b = .own (.id (.old k)) n := hg
        show labFin ids (g pl.b) = _
        rw [hg]; rfl
      · have hg : g pl.b = .free := hg
        show labFin ids (g pl.b) = _
        rw [hg]; rfl
    | new i m =>
      cases i with
      | succ i => rw [hns] at hid; cases hid
      | zero =>
        rw [hnw, Option.map_eq_some_iff] at hid
        obtain ⟨id0, hid0, hid⟩ := hid
        obtain ⟨c0, he, rfl⟩ := hfin _ _ _ _ hid
        have hent : s.ent id0 = some (.obj ver fr c0) := by
          cases hs : s.ent id0 with
          | none => rw [hs] at he; cases he
          | some e => rw [hs] at he; simp only [Option.getD_some] at he; rw [he]
        obtain ⟨i0, j0, rfl⟩ := hnew id0 (List.mem_of_getElem? hid0)
        refine ObjR_ren hle (h.objs (.new i0 j0) ver fr c0 hent) (by show (ids[m]?).bind β = _; rw [hid0]; rfl) fun pl _ => ⟨rfl, fun n hg => ?_, fun hg => ?_⟩
        · have hg : g pl.b = .own (.id (.new i0 j0)) n := hg
          show labFin ids (g pl.b) = _
          rw [hg]
          simp only [labFin, idxOf_nodup hn hid0]
        · have hg : g pl.b = .free := hg
          show labFin ids (g pl.b) = _
          rw [hg]; rfl
  have ho : ∀ id ver, C.E.bnd id ver → ∃ k, id = .old k := fun id ver hb => by
    cases id with
    | old k => exact ⟨k, rfl⟩
    | new i j => exact absurd (hC i j) hb.1
  refine ⟨g', β', by rw [hval]; exact VS_ren hle hv, hobj, htr, Trans.mem (E := C.E) (E' := G.st.env w g' β') htr, fun id ver hb => ?_, fun id ver hb hc => ?_⟩
  · obtain ⟨k, rfl⟩ := ho id ver hb
    exact (hle.ref (.old k) ver (.old k, ver) rfl (h.le.bnd _ _ hb)).1
  · obtain ⟨k, rfl⟩ := ho id ver hb
    obtain ⟨h1, h2⟩ := (hle.ref (.old k) ver (.old k, ver) rfl (h.le.bnd _ _ hb)).2 hc
    obtain ⟨h3, h4⟩ := h.le.cur _ _ hb h1
    exact ⟨h3, h2.trans h4⟩

theorem VSs.len {E : Env} : ∀ {as : List AVal} {vs : List Value}, VSs E as vs → as.length = vs.length
  | [], [], _ => rfl
  | _ :: _, _ :: _, ⟨_, h⟩ => by simp [VSs.len h]
  | [], _ :: _, h => h.elim
  | _ :: _, [], h => h.elim

theorem VSs.get {E : Env} : ∀ {as : List AVal} {vs : List Value}, VSs E as vs → ∀ i, VS E (as.getD i .undef) (vs.getD i undef)
  | [], [], _, i => by simpa using VS.undef
  | _ :: _, _ :: _, ⟨h, _⟩, 0 => by simpa using h
  | _ :: _, _ :: _, ⟨_, h⟩, i + 1 => by simpa using VSs.get h i
  | [], _ :: _, h, _ => h.elim
  | _ :: _, [], h, _ => h.elim

theorem start_inv {w : World} {g : Nat → Lab} {β : Id → Option Pl} {fn : Func} {args : List AVal} {olds : List Ent} {vals : List Value} (hv : VSs ((lent olds).env w g β) args vals) (ho : Objs ((lent olds).env w g β)) :
    Inv ⟨(lent olds).env w g β⟩ g β (start fn args olds) { tmps := vals.toArray ++ Array.replicate (fn.ntmps - vals.toArray.size) undef, defers := [] } w := by
  have hl := hv.len
  have hent : (start fn args olds).ent = (lent olds).ent := by
    funext id
    cases id with
    | old k => rfl
    | new i j =>
      simp only [start, lent, AS.ent, List.getD_eq_getElem?_getD, List.getElem?_replicate]
      split <;> simp
  have henv : (start fn args olds).env w g β = (lent olds).env w g β := by simp only [AS.env, hent]
  refine ⟨rfl, by simp [start, hl], fun i => ?_, by rw [henv]; exact ho, Trans.refl _ _, by rw [henv]; exact EnvLe.refl _⟩
  rw [henv]
  have h1 : (start fn args olds).slot i = args.getD i .undef := by
    simp only [start, AS.slot, List.getD_eq_getElem?_getD, List.getElem?_append, List.getElem?_replicate]
    split
    · rfl
    · rw [List.getElem?_eq_none (l := args) (by omega)]
      split <;> rfl
  have h2 : (vals.toArray ++ Array.replicate (fn.ntmps - vals.toArray.size) undef).getD i undef = vals.getD i undef := by
    simp only [Array.getD_eq_getD_getElem?, List.getD_eq_getElem?_getD, Array.getElem?_append, Array.getElem?_replicate]
    simp only [List.size_toArray, List.getElem?_toArray]
    split
    · rfl
    · rw [List.getElem?_eq_none (l := vals) (by omega)]
      split <;> rfl
  rw [h1, h2]
  exact hv.get i

/-- An entry holds, if the abstract machine says so. -/
theorem Does.of_run (hm : P.follows .mixedOrders = true) (hΓ : Sound P Γ) {f : FuncId} {fn : Func} (hf : P.funcs[f]? = some fn) (hb : fn.body.isSome = true) (hname : (fn.name == "runtime.NumGoroutine") = false) {en : Entry} {an : Ann} {N : Nat} (hL : ∀ c, fn.body = some c → LOk P Γ an N (loopsOf c))
    (h : ∀ args olds x, en.run args olds = some x → arun P Γ an N fn args olds some = some (en.out args olds x)) : Does P f en := by
  intro w g β args olds vals x hv ho hx
  left
  obtain ⟨c, hc⟩ := Option.isSome_iff_exists.1 hb
  refine ⟨?_, ?_⟩
  · unfold callFunc
    have hname' : ¬ fn.name = "runtime.NumGoroutine" := by simpa using hname
    simp [hf, hname', hc]
  · have hN := h args olds x hx
    unfold arun at hN
    rw [hc] at hN
    simp only at hN
    have hC : ∀ i j, ((lent olds).env w g β).s (.new i j) = none := fun i j => by simp [AS.env, lent, AS.ent]
    refine calls_of_wp hf hc (ev_sound (C := ⟨(lent olds).env w g β⟩) hm hΓ hC c (hL c hc) _ _ w _ _ ⟨g, β, start_inv hv ho⟩ hN fun e s' a' w' hs' hk' => ?_)
    have fin : (finish P an fn s').run (fun v => some v) = some (en.out args olds x) → a'.defers = [] ∧ ∃ v, (results fn a'.tmps).run P w' = .ok v w' ∧ ∃ u, Ending.returned v = .returned u ∧ After ((lent olds).env w g β) (en.out args olds x) u w' := fun hr => by
      obtain ⟨G, h1, h2⟩ := run_some.1 hr
      simp only [Option.some.injEq] at h2
      subst h2
      unfold finish at h1
      obtain ⟨sd, h0d, h1⟩ := eval_bind.1 h1
      obtain ⟨s2, h3, h4⟩ := eval_bind.1 h1
      obtain ⟨s3, h4a, h4⟩ := eval_bind.1 h4
      obtain ⟨y, h5, h6⟩ := eval_bind.1 h4
      obtain ⟨g0, β0, hi0⟩ := dats_sound _ hs' h0d
      obtain ⟨g', β', hi⟩ := trim_sound _ (promote_sound hC _ ⟨g0, β0, hi0.drop _⟩ h3) h4a
      obtain ⟨z, g2, h7, h8, h9⟩ := resultA_sound hi h5
      refine ⟨hi.defers, z, h7, z, rfl, ?_⟩
      rw [← eval_ok.1 h6]
      exact fin_sound h8 hC h9
    cases e with
    | normal => exact fin hk'
    | ret => exact fin hk'
    | _ => cases hk'

end
end Go.Ab

/-
  Entries out of specifications; names for what is computed.
-/
namespace Go.Ab

/-! ### Numbers -/

def icv (k : IntKind) (n : Int) : Int := k.wrap n
def iadd (k : IntKind) (x y : Int) : Int := k.wrap (x + y)
def isub (k : IntKind) (x y : Int) : Int := k.wrap (x - y)
def imul (k : IntKind) (x y : Int) : Int := k.wrap (x * y)
def iquo (k : IntKind) (x y : Int) : Int := k.wrap (x.tdiv y)
def irem (x y : Int) : Int := x.tmod y
def ishl (k : IntKind) (x y : Int) : Int := k.wrap (x * 2 ^ (min y.toNat k.bits))
def ishr (k : IntKind) (x y : Int) : Int := x.fdiv (2 ^ (min y.toNat k.bits))
def ineg (k : IntKind) (x : Int) : Int := k.wrap (0 - x)
def inot (k : IntKind) (x : Int) : Int := bitop .xor k (if k.signed then -1 else k.max) x
def ieq (x y : Int) : Bool := x == y
def ine (x y : Int) : Bool := x != y
def ilt (x y : Int) : Bool := decide (x < y)
def ile (x y : Int) : Bool := decide (x ≤ y)
def igt (x y : Int) : Bool := decide (x > y)
def ige (x y : Int) : Bool := decide (x ≥ y)
def seq (x y : ByteArray) : Bool := x.toList == y.toList
def sne (x y : ByteArray) : Bool := !(x.toList == y.toList)
def slt (x y : ByteArray) : Bool := Op.bytesLess x.toList y.toList
def sge (x y : ByteArray) : Bool := !(Op.bytesLess x.toList y.toList)
def sidx (a : ByteArray) (i : Int) : Int := ((a.data.toList.getD i.toNat 0).toNat : Int)
def slen (a : ByteArray) : Int := (a.size : Int)
def llen {α : Type} (l : List α) : Int := (l.length : Int)
def imin (x y : Int) : Int := if y < x then y else x
def imax (x y : Int) : Int := if x < y then y else x
/-- An index within n elements. -/
def inb (i n : Int) : Bool := decide (0 ≤ i ∧ i < n)
/-- A bound within n elements. -/
def inc (i n : Int) : Bool := decide (0 ≤ i ∧ i ≤ n)
def nonneg (y : Int) : Bool := decide (0 ≤ y)
def nonzero (y : Int) : Bool := !(decide (y = 0))

/-! ### Entries -/

open Classical in
noncomputable def LEntry.of {D X : Type} (st : D → AS) (Pre : D → Prop) (F : D → X) (out : X → Out (Exit × AS)) : LEntry :=
  { X, run := fun s => if h : ∃ d, st d = s ∧ Pre d then some (F h.choose) else none, out }

open Classical in
theorem LEntry.of_run {D X : Type} {st : D → AS} {Pre : D → Prop} {F : D → X} {out : X → Out (Exit × AS)} (hinj : ∀ d d', st d = st d' → d = d') {d : D} (h : Pre d) : (LEntry.of st Pre F out).run (st d) = some (F d) := by
  have hex : ∃ d', st d' = st d ∧ Pre d' := ⟨d, rfl, h⟩
  show (if h : ∃ d', st d' = st d ∧ Pre d' then some (F h.choose) else none) = _
  rw [dif_pos hex, hinj _ _ hex.choose_spec.1]

open Classical in
noncomputable def Join.of {X : Type} (an : LoopAnn) (st : X → AS) : Join :=
  { an, X, inn := fun e s => if h : e = .normal ∧ ∃ x, st x = s then some h.2.choose else none, out := fun x => .ok (.normal, st x),
    ok := fun e s x h => by
      by_cases h1 : e = .normal ∧ ∃ x, st x = s
      · rw [dif_pos h1] at h
        have h2 := h1.2.choose_spec
        rw [Option.some.inj h] at h2
        rw [h1.1, ← h2]
        rfl
      · rw [dif_neg h1] at h; cases h }

open Classical in
theorem Join.of_inn {X : Type} {an : LoopAnn} {st : X → AS} (hinj : ∀ d d', st d = st d' → d = d') (x : X) : (Join.of an st).inn .normal (st x) = some x := by
  have hex : Exit.normal = .normal ∧ ∃ y, st y = st x := ⟨rfl, x, rfl⟩
  show (if h : Exit.normal = .normal ∧ ∃ y, st y = st x then some h.2.choose else none) = _
  rw [dif_pos hex, hinj _ _ hex.2.choose_spec]

open Classical in
theorem LDo.of {P : Program} {Γ : Gam} {an : Ann} {N : Nat} {fn : Func} {i : Nat} {D X : Type} {st : D → AS} {Pre : D → Prop} {F : D → X} {out : X → Out (Exit × AS)}
    (hle : an.sums (firstRegion (fnLoop fn i)) = some (LEntry.of st Pre F out)) (h : ∀ d, Pre d → ∃ n, lrun P Γ an N fn i n (st d) (fun e s => some (e, s)) = (out (F d)).eval) : LDo P Γ an N (fnLoop fn i) := by
  intro le hle' s x hx
  rw [hle] at hle'
  simp only [Option.some.injEq] at hle'
  subst hle'
  change (if h : ∃ d', st d' = s ∧ Pre d' then some (F h.choose) else none) = some x at hx
  split at hx
  · rename_i hex
    obtain rfl := Option.some.inj hx
    obtain ⟨h1, h2⟩ := hex.choose_spec
    obtain ⟨n, hn⟩ := h _ h2
    refine ⟨n, ?_⟩
    show lrun P Γ an N fn i n s _ = _
    rw [h1] at hn
    exact hn
  · cases hx

theorem lrun_succ (P : Program) (Γ : Gam) (an : Ann) (N : Nat) (fn : Func) (i : Nat) {R : Type} (n : Nat) (s : AS) (k : Exit → AS → Option R) :
    lrun P Γ an N fn i (n + 1) s k = lround P Γ an N fn i s (fun s1 => lrun P Γ an N fn i n s1 k) k := rfl

/-- A loop whose rounds lower a measure. -/
theorem lrun_of {P : Program} {Γ : Gam} {an : Ann} {N : Nat} {fn : Func} {i : Nat} {D X : Type} {st : D → AS} {Pre : D → Prop} {F : D → X} {out : X → Out (Exit × AS)} (μ : D → Nat)
    (h : ∀ d, Pre d → (∃ d', Pre d' ∧ μ d' < μ d ∧ F d' = F d ∧ ∀ {R : Type} (kn : AS → Option R) (kx : Exit → AS → Option R), lround P Γ an N fn i (st d) kn kx = kn (st d')) ∨
      (∃ r, (out (F d)).eval = some r ∧ ∀ {R : Type} (kn : AS → Option R) (kx : Exit → AS → Option R), lround P Γ an N fn i (st d) kn kx = kx r.1 r.2)) :
    ∀ d, Pre d → ∃ n, lrun P Γ an N fn i n (st d) (fun e s => some (e, s)) = (out (F d)).eval := by
  have key : ∀ m d, μ d = m → Pre d → ∃ n, lrun P Γ an N fn i n (st d) (fun e s => some (e, s)) = (out (F d)).eval := by
    intro m
    induction m using Nat.strongRecOn with
    | _ m ih =>
      intro d hm hp
      rcases h d hp with ⟨d', hp', hlt, hF, hr⟩ | ⟨r, hr, hx⟩
      · obtain ⟨n, hn⟩ := ih (μ d') (by omega) d' rfl hp'
        exact ⟨n + 1, by rw [lrun_succ, hr, hn, hF]⟩
      · exact ⟨1, by rw [lrun_succ, hx, hr]⟩
  exact fun d hp => key _ d rfl hp

/-- A loop with one exit. -/
theorem lrun_one {P : Program} {Γ : Gam} {an : Ann} {N : Nat} {fn : Func} {i : Nat} {D X : Type} {st : D → AS} {Pre : D → Prop} {F : D → X} {ex : X → Exit × AS} (μ : D → Nat)
    (h : ∀ d, Pre d → (∃ d', Pre d' ∧ μ d' < μ d ∧ F d' = F d ∧ ∀ {R : Type} (kn : AS → Option R) (kx : Exit → AS → Option R), lround P Γ an N fn i (st d) kn kx = kn (st d')) ∨
      (∀ {R : Type} (kn : AS → Option R) (kx : Exit → AS → Option R), lround P Γ an N fn i (st d) kn kx = kx (ex (F d)).1 (ex (F d)).2)) :
    ∀ d, Pre d → ∃ n, lrun P Γ an N fn i n (st d) (fun e s => some (e, s)) = (Out.ok (ex (F d))).eval :=
  lrun_of (out := fun x => .ok (ex x)) μ fun d hp => (h d hp).imp id fun h => ⟨_, rfl, h⟩

open Classical in
noncomputable def Entry.of {D X : Type} (params : List (Option Ty)) (st : D → List AVal × List Ent) (Pre : D → Prop) (F : D → X) (out : X → GRes) : Entry :=
  { params, X, run := fun args olds => if h : ∃ d, st d = (args, olds) ∧ Pre d then some (F h.choose) else none, out := fun _ _ => out }

open Classical in
theorem Entry.of_run {D X : Type} {params : List (Option Ty)} {st : D → List AVal × List Ent} {Pre : D → Prop} {F : D → X} {out : X → GRes} (hinj : ∀ d d', st d = st d' → d = d') {d : D} (h : Pre d) :
    (Entry.of params st Pre F out).run (st d).1 (st d).2 = some (F d) := by
  have hex : ∃ d', st d' = ((st d).1, (st d).2) ∧ Pre d' := ⟨d, rfl, h⟩
  show (if h : ∃ d', st d' = ((st d).1, (st d).2) ∧ Pre d' then some (F h.choose) else none) = _
  rw [dif_pos hex, hinj _ _ hex.choose_spec.1]

open Classical in
theorem Does.of {P : Program} {Γ : Gam} (hm : P.follows .mixedOrders = true) (hΓ : Sound P Γ) {f : FuncId} {fn : Func} (hf : P.funcs[f]? = some fn) (hb : fn.body.isSome = true) (hname : (fn.name == "runtime.NumGoroutine") = false) {an : Ann} {N : Nat}
    (hL : ∀ c, fn.body = some c → LOk P Γ an N (loopsOf c)) {D X : Type} {params : List (Option Ty)} {st : D → List AVal × List Ent} {Pre : D → Prop} {F : D → X} {out : X → GRes}
    (h : ∀ d, Pre d → arun P Γ an N fn (st d).1 (st d).2 some = some (out (F d))) : Does P f (Entry.of params st Pre F out) := by
  refine Does.of_run hm hΓ hf hb hname hL fun args olds x hx => ?_
  change (if h : ∃ d', st d' = (args, olds) ∧ Pre d' then some (F h.choose) else none) = some x at hx
  split at hx
  · rename_i hex
    obtain rfl := Option.some.inj hx
    obtain ⟨h1, h2⟩ := hex.choose_spec
    have := h _ h2
    rw [h1] at this
    exact this
  · cases hx

def LAt (P : Program) (Γ : Gam) (an : Ann) (N : Nat) (fn : Func) : Nat → Nat → Prop
  | 0, _ => True
  | n + 1, i => LDo P Γ an N (fnLoop fn i) ∧ LAt P Γ an N fn n (i + 1)

theorem LAt.get {P : Program} {Γ : Gam} {an : Ann} {N : Nat} {fn : Func} : ∀ {n i : Nat}, LAt P Γ an N fn n i → ∀ j, j < n → LDo P Γ an N (fnLoop fn (i + j))
  | 0, _, _, j, hj => by omega
  | n + 1, i, h, 0, _ => h.1
  | n + 1, i, h, j + 1, hj => by
    have := LAt.get h.2 j (by omega)
    rwa [show i + 1 + j = i + (j + 1) by omega] at this

theorem LOk.of_all {P : Program} {Γ : Gam} {an : Ann} {N : Nat} : ∀ (l : List Code), (∀ j, j < l.length → LDo P Γ an N (l.getD j .skip)) → LOk P Γ an N l
  | [], _ => trivial
  | b :: l, h => ⟨h 0 (by simp), LOk.of_all l fun j hj => by have := h (j + 1) (by simpa using hj); simpa using this⟩

theorem LOk.fn {P : Program} {Γ : Gam} {an : Ann} {N : Nat} {fn : Func} (n : Nat) (hn : (match fn.body with | some c => (loopsOf c).length | none => 0) = n) (h : LAt P Γ an N fn n 0) : ∀ c, fn.body = some c → LOk P Γ an N (loopsOf c) := by
  intro c hc
  refine LOk.of_all _ fun j hj => ?_
  rw [hc] at hn
  simp only at hn
  have := h.get j (by omega)
  unfold fnLoop at this
  rw [hc] at this
  simpa using this

theorem LDo.none {P : Program} {Γ : Gam} {an : Ann} {N : Nat} {fn : Func} {i : Nat} (h : an.sums (firstRegion (fnLoop fn i)) = none) : LDo P Γ an N (fnLoop fn i) := fun le hle => by
  rw [h] at hle; cases hle

def gnil : Gam := fun _ _ => none
theorem Sound.nil (P : Program) : Sound P gnil := fun _ _ _ h => by cases h
def gcons (f : FuncId) (p : List AVal → Bool) (en : Entry) (Γ : Gam) : Gam := fun g vs => match Nat.beq g f with | true => (match p vs with | true => some en | false => Γ g vs) | false => Γ g vs
theorem Sound.cons {P : Program} {f : FuncId} {p : List AVal → Bool} {en : Entry} {Γ : Gam} (h : Does P f en) (hΓ : Sound P Γ) : Sound P (gcons f p en Γ) := fun g vs e hg => by
  unfold gcons at hg
  split at hg
  · rename_i he
    have : g = f := Nat.eq_of_beq_eq_true he
    split at hg
    · simp only [Option.some.injEq] at hg
      subst hg this
      exact h
    · exact hΓ g vs e hg
  · exact hΓ g vs e hg

/-! ### Getters -/

def prA : AVal → AVal | .pr a _ => a | v => v
def prB : AVal → AVal | .pr _ b => b | v => v
def capN (n : Nat) : AVal → AVal | .fn _ c => c.list.getD n .undef | v => v.list.getD n .undef
def bxC : AVal → AVal | .bx _ c => c | v => v
def entC : Option Ent → AVal | some (.obj _ _ c) => c | _ => .undef
def entD : Ent → AVal | .obj _ _ c => c | .dead => .undef
def srefLen : AVal → Nat | .sref _ _ _ _ _ n => n | _ => 0
theorem d_inj {t : Ty} {x y : t.den} (h : AVal.d t x = AVal.d t y) : x = y := by
  injection h with _ h
theorem rptr_inj {t : Ty} {x y : t.den} (h : AVal.rptr t x = AVal.rptr t y) : x = y := by
  injection h with _ h
theorem vec_inj {e : TypeId} {t : Ty} {x y : List t.den} (h : AVal.vec e t x = AVal.vec e t y) : x = y := by
  injection h with _ _ h

/-- By the shape of the first value. -/
def anyArgs : List AVal → Bool := fun _ => true
def nilsFirst : List AVal → Bool | .nils :: _ => true | _ => false
def srefFirst : List AVal → Bool | .sref .. :: _ => true | _ => false
def dataFirst : List AVal → Bool | .d .. :: _ => true | _ => false

@[simp] theorem sel_true {α : Type} (x y : Option α) : sel true x y = x := rfl
@[simp] theorem sel_false {α : Type} (x y : Option α) : sel false x y = y := rfl
@[simp] theorem obind_some {α β : Type} (x : α) (f : α → Option β) : obind (some x) f = f x := rfl
@[simp] theorem nd_same {α : Type} (x : Option α) : nd x x = x := by simp [nd]
theorem sel_if {α : Type} (c : Bool) (x y : Option α) : sel c x y = if c then x else y := by cases c <;> rfl

end Go.Ab
/-
  Numbers: wrapping, words.
-/
namespace Go.Ab

theorem i64_wrap {n : Int} (h1 : -9223372036854775808 ≤ n) (h2 : n ≤ 9223372036854775807) : IntKind.i64.wrap n = n := by
  simp [IntKind.wrap, IntKind.bits, IntKind.signed]
  split <;> omega

theorem iadd_i64 {x y : Int} (h1 : -9223372036854775808 ≤ x + y) (h2 : x + y ≤ 9223372036854775807) : iadd .i64 x y = x + y := i64_wrap h1 h2
theorem isub_i64 {x y : Int} (h1 : -9223372036854775808 ≤ x - y) (h2 : x - y ≤ 9223372036854775807) : isub .i64 x y = x - y := i64_wrap h1 h2
theorem imul_i64 {x y : Int} (h1 : -9223372036854775808 ≤ x * y) (h2 : x * y ≤ 9223372036854775807) : imul .i64 x y = x * y := i64_wrap h1 h2
theorem icv_i64 {x : Int} (h1 : -9223372036854775808 ≤ x) (h2 : x ≤ 9223372036854775807) : icv .i64 x = x := i64_wrap h1 h2

/-- A word as a number. -/
def vw {n : Nat} (w : BitVec n) : Int := (w.toNat : Int)

theorem vw_ofInt (n : Nat) (x : Int) : vw (BitVec.ofInt n x) = x % ((2 ^ n : Nat) : Int) := by
  unfold vw
  rw [BitVec.toNat_ofInt]
  have : 0 ≤ x % ((2 ^ n : Nat) : Int) := Int.emod_nonneg _ (by have := Nat.two_pow_pos n; omega)
  omega

theorem vw_nonneg {n : Nat} (w : BitVec n) : 0 ≤ vw w := Int.natCast_nonneg _
theorem vw_lt {n : Nat} (w : BitVec n) : vw w < ((2 ^ n : Nat) : Int) := by have := w.isLt; unfold vw; omega
theorem ofInt_vw {n : Nat} (w : BitVec n) : BitVec.ofInt n (vw w) = w := by
  apply BitVec.eq_of_toNat_eq
  have := vw_ofInt n (vw w)
  unfold vw at this ⊢
  have h := w.isLt
  rw [Int.emod_eq_of_lt (Int.natCast_nonneg _) (by omega)] at this
  omega
theorem vw_inj {n : Nat} {x y : BitVec n} (h : vw x = vw y) : x = y := by rw [← ofInt_vw x, h, ofInt_vw]

theorem wrap_u32 (x : Int) : IntKind.u32.wrap x = vw (BitVec.ofInt 32 x) := by rw [vw_ofInt]; simp [IntKind.wrap, IntKind.bits, IntKind.signed]
theorem wrap_u64 (x : Int) : IntKind.u64.wrap x = vw (BitVec.ofInt 64 x) := by rw [vw_ofInt]; simp [IntKind.wrap, IntKind.bits, IntKind.signed]
theorem wrap_u8 (x : Int) : IntKind.u8.wrap x = vw (BitVec.ofInt 8 x) := by rw [vw_ofInt]; simp [IntKind.wrap, IntKind.bits, IntKind.signed]
theorem wrap_u16 (x : Int) : IntKind.u16.wrap x = vw (BitVec.ofInt 16 x) := by rw [vw_ofInt]; simp [IntKind.wrap, IntKind.bits, IntKind.signed]

theorem ofInt_add (n : Nat) (x y : Int) : BitVec.ofInt n (x + y) = BitVec.ofInt n x + BitVec.ofInt n y := BitVec.ofInt_add ..
theorem iadd_u32 (x y : BitVec 32) : iadd .u32 (vw x) (vw y) = vw (x + y) := by rw [iadd, wrap_u32, BitVec.ofInt_add, ofInt_vw, ofInt_vw]
theorem iadd_u64 (x y : BitVec 64) : iadd .u64 (vw x) (vw y) = vw (x + y) := by rw [iadd, wrap_u64, BitVec.ofInt_add, ofInt_vw, ofInt_vw]
theorem icv_u32 (x : Int) : icv .u32 x = vw (BitVec.ofInt 32 x) := wrap_u32 x
theorem icv_u64 (x : Int) : icv .u64 x = vw (BitVec.ofInt 64 x) := wrap_u64 x
theorem icv_u8 (x : Int) : icv .u8 x = vw (BitVec.ofInt 8 x) := wrap_u8 x

theorem nat_vw {n : Nat} (x : BitVec n) : BitVec.ofInt n ((x.toNat : Nat) : Int) = x := ofInt_vw x

theorem bitop_u32 (op : BinOp) (x y : BitVec 32) : bitop op .u32 (vw x) (vw y) = vw (match op with | .and => x &&& y | .or => x ||| y | .xor => x ^^^ y | _ => x &&& ~~~y) := by
  unfold bitop
  split <;> (simp only [IntKind.bits, ofInt_vw, wrap_u32, nat_vw]; rfl)
theorem bitop_u64 (op : BinOp) (x y : BitVec 64) : bitop op .u64 (vw x) (vw y) = vw (match op with | .and => x &&& y | .or => x ||| y | .xor => x ^^^ y | _ => x &&& ~~~y) := by
  unfold bitop
  split <;> (simp only [IntKind.bits, ofInt_vw, wrap_u64, nat_vw]; rfl)
theorem bitop_u8 (op : BinOp) (x y : BitVec 8) : bitop op .u8 (vw x) (vw y) = vw (match op with | .and => x &&& y | .or => x ||| y | .xor => x ^^^ y | _ => x &&& ~~~y) := by
  unfold bitop
  split <;> (simp only [IntKind.bits, ofInt_vw, wrap_u8, nat_vw]; rfl)

theorem fdiv_nat (x y : Nat) : Int.fdiv (x : Int) (y : Int) = ((x / y : Nat) : Int) := by
  rw [Int.fdiv_eq_ediv_of_nonneg _ (Int.natCast_nonneg _)]
  rfl

theorem two_pow_cast (k : Nat) : (2 : Int) ^ k = ((2 ^ k : Nat) : Int) := by simp

theorem shr_vw {n : Nat} (w : BitVec n) (k : Nat) : Int.fdiv (vw w) (2 ^ (min k n)) = vw (w >>> k) := by
  rw [two_pow_cast]
  unfold vw
  rw [fdiv_nat, BitVec.toNat_ushiftRight, Nat.shiftRight_eq_div_pow]
  congr 1
  rcases Nat.le_total k n with hk | hk
  · rw [Nat.min_eq_left hk]
  · rw [Nat.min_eq_right hk, Nat.div_eq_of_lt w.isLt, Nat.div_eq_of_lt]
    exact Nat.lt_of_lt_of_le w.isLt (Nat.pow_le_pow_right (by omega) hk)

theorem ishr_u32 (w : BitVec 32) (k : Int) : ishr .u32 (vw w) k = vw (w >>> k.toNat) := shr_vw w k.toNat
theorem ishr_u64 (w : BitVec 64) (k : Int) : ishr .u64 (vw w) k = vw (w >>> k.toNat) := shr_vw w k.toNat
theorem ishr_u8 (w : BitVec 8) (k : Int) : ishr .u8 (vw w) k = vw (w >>> k.toNat) := shr_vw w k.toNat

theorem shl_vw {n : Nat} (w : BitVec n) (k : Nat) : BitVec.ofInt n (vw w * 2 ^ (min k n)) = w <<< k := by
  apply BitVec.eq_of_toNat_eq
  rw [BitVec.toNat_ofInt, BitVec.toNat_shiftLeft, Nat.shiftLeft_eq]
  unfold vw
  rw [two_pow_cast]
  have e : ((w.toNat : Int) * ((2 ^ min k n : Nat) : Int)) = ((w.toNat * 2 ^ min k n : Nat) : Int) := by simp
  rw [e]
  have : (((w.toNat * 2 ^ min k n : Nat) : Int) % ((2 ^ n : Nat) : Int)).toNat = (w.toNat * 2 ^ min k n) % 2 ^ n := by omega
  rw [this]
  rcases Nat.le_total k n with hk | hk
  · rw [Nat.min_eq_left hk]
  · rw [Nat.min_eq_right hk, Nat.mul_mod_left]
    obtain ⟨m, rfl⟩ := Nat.exists_eq_add_of_le hk
    rw [Nat.pow_add, ← Nat.mul_assoc, Nat.mul_right_comm, Nat.mul_mod_left]

theorem ishl_u32 (w : BitVec 32) (k : Int) : ishl .u32 (vw w) k = vw (w <<< k.toNat) := by rw [ishl, wrap_u32]; congr 1; exact shl_vw w k.toNat
theorem ishl_u64 (w : BitVec 64) (k : Int) : ishl .u64 (vw w) k = vw (w <<< k.toNat) := by rw [ishl, wrap_u64]; congr 1; exact shl_vw w k.toNat
theorem ishl_u8 (w : BitVec 8) (k : Int) : ishl .u8 (vw w) k = vw (w <<< k.toNat) := by rw [ishl, wrap_u8]; congr 1; exact shl_vw w k.toNat

/-! ### Tests -/

theorem inb_true {i n : Int} (h1 : 0 ≤ i) (h2 : i < n) : inb i n = true := by simp [inb, h1, h2]
theorem inc_true {i n : Int} (h1 : 0 ≤ i) (h2 : i ≤ n) : inc i n = true := by simp [inc, h1, h2]
theorem ilt_true {x y : Int} (h : x < y) : ilt x y = true := by simp [ilt, h]
theorem ilt_false {x y : Int} (h : ¬ x < y) : ilt x y = false := by simp [ilt]; omega
theorem ile_true {x y : Int} (h : x ≤ y) : ile x y = true := by simp [ile, h]
theorem ile_false {x y : Int} (h : ¬ x ≤ y) : ile x y = false := by simp [ile]; omega
theorem igt_true {x y : Int} (h : x > y) : igt x y = true := by simp [igt]; omega
theorem igt_false {x y : Int} (h : ¬ x > y) : igt x y = false := by simp [igt]; omega
theorem ige_true {x y : Int} (h : x ≥ y) : ige x y = true := by simp [ige]; omega
theorem ige_false {x y : Int} (h : ¬ x ≥ y) : ige x y = false := by simp [ige]; omega
theorem ieq_true {x y : Int} (h : x = y) : ieq x y = true := by simp [ieq, h]
theorem ieq_false {x y : Int} (h : ¬ x = y) : ieq x y = false := by simp [ieq, h]
theorem ine_true {x y : Int} (h : ¬ x = y) : ine x y = true := by simp [ine, h]
theorem ine_false {x y : Int} (h : x = y) : ine x y = false := by simp [ine, h]
theorem nonneg_true {x : Int} (h : 0 ≤ x) : nonneg x = true := by simp [nonneg, h]
theorem dec_true {p : Prop} [Decidable p] (h : p) : decide p = true := by simp [h]
theorem dec_false {p : Prop} [Decidable p] (h : ¬ p) : decide p = false := by simp [h]
theorem room_true {n b : Nat} (h : n * b ≤ 140737488355328) (h2 : n ≤ 9223372036854775807) : roomA n b = true := by simp [roomA, h, h2]

/-! ### Rows that are changed place by place -/

def from_ {α : Type} (f : Nat → α → α) (t : Nat) (l : List α) : List α := l.mapIdx fun i x => if i < t then x else f i x
theorem from_step {α : Type} (f : Nat → α → α) (l : List α) (t : Nat) (h : t < l.length) : from_ f (t + 1) (l.set t (f t l[t])) = from_ f t l := by
  unfold from_
  apply List.ext_getElem (by simp)
  intro i h1 h2
  simp only [List.getElem_mapIdx, List.getElem_set]
  by_cases hi : t = i
  · subst hi; simp
  · simp only [if_neg hi]
    by_cases h3 : i < t
    · rw [if_pos (by omega), if_pos h3]
    · rw [if_neg (by omega), if_neg h3]
theorem from_end {α : Type} (f : Nat → α → α) (l : List α) (t : Nat) (h : l.length ≤ t) : from_ f t l = l := by
  unfold from_
  apply List.ext_getElem (by simp)
  intro i h1 h2
  simp only [List.getElem_mapIdx]
  rw [if_pos (by omega)]

theorem from_replicate {α : Type} (f : Nat → α → α) (n : Nat) (x : α) : from_ f 0 (List.replicate n x) = (List.range n).map fun i => f i x := by
  unfold from_
  apply List.ext_getElem (by simp)
  intro i h1 h2
  simp

theorem nth_lt {t : Ty} {l : List t.den} {i : Nat} (h : i < l.length) : nth t l i = l[i] := by simp [nth, h]

end Go.Ab

/-
  Numbers and tests for the simplifier, with side conditions that linear arithmetic closes.
-/
namespace Go.Ab.N

section
variable {α : Type} {x y : Option α} {a b n : Nat} {i j : Int}
theorem lt : sel (ilt i j) x y = if i < j then x else y := by unfold ilt; split <;> rename_i h <;> simp [h]
theorem le : sel (ile i j) x y = if i ≤ j then x else y := by unfold ile; split <;> rename_i h <;> simp [h]
theorem gt : sel (igt i j) x y = if j < i then x else y := by unfold igt; split <;> rename_i h <;> simp [h]
theorem ge : sel (ige i j) x y = if j ≤ i then x else y := by unfold ige; split <;> rename_i h <;> simp [h]
theorem eq : sel (ieq i j) x y = if i = j then x else y := by
  by_cases h : i = j
  · rw [ieq_true h, if_pos h]; rfl
  · rw [ieq_false h, if_neg h]; rfl
theorem ne : sel (ine i j) x y = if i = j then y else x := by
  by_cases h : i = j
  · rw [ine_false h, if_pos h]; rfl
  · rw [ine_true h, if_neg h]; rfl
theorem ib : sel (inb i j) x y = if 0 ≤ i ∧ i < j then x else y := by unfold inb; split <;> rename_i h <;> simp [h]
theorem ic : sel (inc i j) x y = if 0 ≤ i ∧ i ≤ j then x else y := by unfold inc; split <;> rename_i h <;> simp [h]
theorem nn : sel (nonneg i) x y = if 0 ≤ i then x else y := by unfold nonneg; split <;> rename_i h <;> simp [h]
theorem nz : sel (nonzero i) x y = if i = 0 then y else x := by unfold nonzero; split <;> rename_i h <;> simp [h]
theorem dc {p : Prop} [Decidable p] : sel (decide p) x y = if p then x else y := by split <;> rename_i h <;> simp [h]
theorem rm : sel (roomA n b) x y = if n * b ≤ 140737488355328 ∧ n ≤ 9223372036854775807 then x else y := by unfold roomA; exact dc
theorem an {c d : Bool} : sel (c && d) x y = sel c (sel d x y) y := by cases c <;> rfl
theorem or {c d : Bool} : sel (c || d) x y = sel c x (sel d x y) := by cases c <;> rfl
theorem no {c : Bool} : sel (!c) x y = sel c y x := by cases c <;> rfl
theorem cd {c d e : Bool} : sel (cond c d e) x y = sel c (sel d x y) (sel e x y) := by cases c <;> rfl

theorem aNN (h : a + b ≤ 9223372036854775807) : iadd .i64 (a : Int) (b : Int) = ((a + b : Nat) : Int) := by rw [iadd_i64 (by omega) (by omega)]; omega
theorem aNL (h : a + OfNat.ofNat n ≤ 9223372036854775807) : iadd .i64 (a : Int) (no_index (OfNat.ofNat n)) = ((a + OfNat.ofNat n : Nat) : Int) := aNN h
theorem aLN (h : OfNat.ofNat n + a ≤ 9223372036854775807) : iadd .i64 (no_index (OfNat.ofNat n)) (a : Int) = ((OfNat.ofNat n + a : Nat) : Int) := aNN h
theorem sNN (h : b ≤ a) (h2 : a ≤ 9223372036854775807) : isub .i64 (a : Int) (b : Int) = ((a - b : Nat) : Int) := by rw [isub_i64 (by omega) (by omega)]; omega
theorem sNL (h : OfNat.ofNat n ≤ a) (h2 : a ≤ 9223372036854775807) : isub .i64 (a : Int) (no_index (OfNat.ofNat n)) = ((a - OfNat.ofNat n : Nat) : Int) := sNN h h2
theorem sLN (h : a ≤ OfNat.ofNat n) (h2 : (OfNat.ofNat n : Nat) ≤ 9223372036854775807) : isub .i64 (no_index (OfNat.ofNat n)) (a : Int) = ((OfNat.ofNat n - a : Nat) : Int) := sNN h h2
theorem mNN (h : a * b ≤ 9223372036854775807) : imul .i64 (a : Int) (b : Int) = ((a * b : Nat) : Int) := by
  have e : (a : Int) * (b : Int) = ((a * b : Nat) : Int) := by simp
  rw [imul_i64 (by omega) (by omega), e]
theorem mNL (h : a * OfNat.ofNat n ≤ 9223372036854775807) : imul .i64 (a : Int) (no_index (OfNat.ofNat n)) = ((a * OfNat.ofNat n : Nat) : Int) := mNN h
theorem mLN (h : OfNat.ofNat n * a ≤ 9223372036854775807) : imul .i64 (no_index (OfNat.ofNat n)) (a : Int) = ((OfNat.ofNat n * a : Nat) : Int) := mNN h
theorem qNN (h : a ≤ 9223372036854775807) : iquo .i64 (a : Int) (b : Int) = ((a / b : Nat) : Int) := by
  have : (a : Int).tdiv (b : Int) = ((a / b : Nat) : Int) := by rw [Int.tdiv_eq_ediv_of_nonneg (by omega)]; simp
  have hl : a / b ≤ a := Nat.div_le_self a b
  unfold iquo
  rw [this]
  generalize a / b = c at hl
  exact i64_wrap (by omega) (by omega)
theorem qNL (h : a ≤ 9223372036854775807) : iquo .i64 (a : Int) (no_index (OfNat.ofNat n)) = ((a / OfNat.ofNat n : Nat) : Int) := qNN h
theorem rNN : irem (a : Int) (b : Int) = ((a % b : Nat) : Int) := by
  unfold irem
  rw [Int.tmod_eq_emod_of_nonneg (by omega)]
  simp
theorem rNL : irem (a : Int) (no_index (OfNat.ofNat n)) = ((a % OfNat.ofNat n : Nat) : Int) := rNN
theorem cN (h : a ≤ 9223372036854775807) : icv .i64 (a : Int) = (a : Int) := icv_i64 (by omega) (by omega)
theorem cL (h : (OfNat.ofNat n : Nat) ≤ 9223372036854775807) : icv .i64 (no_index (OfNat.ofNat n)) = OfNat.ofNat n := cN h
theorem tL : Int.toNat (no_index (OfNat.ofNat n)) = OfNat.ofNat n := rfl
end
end Go.Ab.N

/-
  Functions that the model knows by itself: what is known of them.
-/
namespace Go.Ab

section
variable {P : Program}

theorem env_same {E E' : Env} (h1 : E'.w = E.w) (h2 : E'.g = E.g) (h3 : E'.β = E.β) (h4 : E'.s = E.s) : E' = E := by
  obtain ⟨a, b, c, d⟩ := E
  obtain ⟨a', b', c', d'⟩ := E'
  simp only at h1 h2 h3 h4
  subst h1 h2 h3 h4
  rfl

/-- Nothing happens but that a value is told. -/
theorem After.same {w : World} {g : Nat → Lab} {β : Id → Option Pl} {olds : List Ent} {a : AVal} {v : Value} (hv : VS ((lent olds).env w g β) a v) (ho : Objs ((lent olds).env w g β)) :
    After ((lent olds).env w g β) ⟨a, olds, []⟩ v w := by
  have hE : (GRes.st ⟨a, olds, []⟩).env w g β = (lent olds).env w g β := by
    refine env_same rfl rfl rfl ?_
    funext id
    cases id with
    | old k => rfl
    | new i j =>
      show ([([] : List Ent)].getD i [])[j]? = (([] : List (List Ent)).getD i [])[j]?
      cases i <;> rfl
  refine ⟨g, β, ?_⟩
  rw [hE]
  exact ⟨hv, ho, Trans.refl w g, EnvLe.refl _⟩

theorem Does.extern {f : FuncId} {fn : Func} {e : Array Value → Sem Value} (hf : P.funcs[f]? = some fn) (hname : (fn.name == "runtime.NumGoroutine") = false) (hb : fn.body.isNone = true) (hn : Extern.findNext fn = none) (he : Extern.find fn = some e) {en : Entry}
    (h : ∀ w g β args olds vals x, VSs ((lent olds).env w g β) args vals → Objs ((lent olds).env w g β) → en.run args olds = some x → ∃ v, (e vals.toArray).run P w = .ok v w ∧ After ((lent olds).env w g β) (en.out args olds x) v w) : Does P f en := by
  intro w g β args olds vals x h1 h2 h3
  obtain ⟨v, h4, h5⟩ := h w g β args olds vals x h1 h2 h3
  refine .inr ⟨v, w, ?_, h5⟩
  rw [run_callFunc_extern hf hname hb hn he, h4]
  rfl

/-! ### A pointer as it is -/

def noEsc.E : Entry := { params := [none], X := Unit, run := fun args _ => match args with | [_] => some () | _ => none, out := fun args olds _ => ⟨args.headD .undef, olds, []⟩ }

theorem noEsc.of {f : FuncId} {fn : Func} (hf : P.funcs[f]? = some fn) (hname : (fn.name == "runtime.NumGoroutine") = false) (hb : fn.body.isNone = true) (hn : Extern.findNext fn = none) (he : Extern.find fn = some Extern.AbiNoEscape.same) : Does P f noEsc.E := by
  refine Does.extern hf hname hb hn he fun w g β args olds vals x h1 h2 h3 => ?_
  cases args with
  | nil => cases h3
  | cons a as =>
    cases as with
    | cons _ _ => cases h3
    | nil =>
      cases vals with
      | nil => exact h1.elim
      | cons v vs =>
        obtain ⟨h4, h5⟩ := h1
        cases vs with
        | cons _ _ => exact h5.elim
        | nil => exact ⟨v, rfl, After.same h4 h2⟩

/-! ### Where a byte stands in a text -/

noncomputable def ixb.E : Entry := Entry.of (D := ByteArray × Int) (X := Int) [some .str, some (.int .u8)] (fun d => ([.d .str d.1, .d (.int .u8) d.2], [])) (fun _ => True) (fun d => firstIdx d.1 d.2.toNat.toUInt8) (fun x => ⟨.d (.int .i64) x, [], []⟩)
theorem ixb.inj : ∀ d d' : ByteArray × Int, (([AVal.d .str d.1, AVal.d (.int .u8) d.2], ([] : List Ent)) : List AVal × List Ent) = ([.d .str d'.1, .d (.int .u8) d'.2], []) → d = d' := by
  rintro ⟨a, b⟩ ⟨a', b'⟩ h
  have e1 : a = a' := d_inj (t := .str) (congrArg (fun s : List AVal × List Ent => s.1.getD 0 .undef) h)
  have e2 : b = b' := d_inj (t := .int .u8) (congrArg (fun s : List AVal × List Ent => s.1.getD 1 .undef) h)
  rw [e1, e2]
noncomputable def ixb.call : ByteArray × Int → Option Int := fun d => ixb.E.run [.d .str d.1, .d (.int .u8) d.2] []
theorem ixb.run (d : ByteArray × Int) : ixb.call d = some (firstIdx d.1 d.2.toNat.toUInt8) := Entry.of_run (d := d) ixb.inj trivial
theorem ixb.of {f : FuncId} {fn : Func} (hf : P.funcs[f]? = some fn) (hname : (fn.name == "runtime.NumGoroutine") = false) (hb : fn.body.isNone = true) (hn : Extern.findNext fn = none) (he : Extern.find fn = some Extern.BytealgIndexByte.indexByte) : Does P f ixb.E := by
  refine Does.extern hf hname hb hn he fun w g β args olds vals x h1 h2 h3 => ?_
  have hx : ∃ d : ByteArray × Int, (([AVal.d .str d.1, AVal.d (.int .u8) d.2], ([] : List Ent)) : List AVal × List Ent) = (args, olds) := by
    by_cases hh : ∃ d : ByteArray × Int, (([AVal.d .str d.1, AVal.d (.int .u8) d.2], ([] : List Ent)) : List AVal × List Ent) = (args, olds)
    · exact hh
    · exfalso
      have hn : ixb.E.run args olds = none := dif_neg fun ⟨d, h, _⟩ => hh ⟨d, h⟩
      rw [hn] at h3
      cases h3
  obtain ⟨d, hd⟩ := hx
  simp only [Prod.mk.injEq] at hd
  obtain ⟨rfl, rfl⟩ := hd
  have hr := ixb.run d
  have hx : x = firstIdx d.1 d.2.toNat.toUInt8 := Option.some.inj (h3.symm.trans hr)
  subst hx
  match vals, h1 with
  | [u, v], ⟨h4, h5, _⟩ =>
    refine ⟨.int .i64 (firstIdx d.1 d.2.toNat.toUInt8), ?_, After.same (VS_int _ _) h2⟩
    rw [str_of h4, int_of h5]
    exact run_indexByte_string d.1 d.2 w

/-! ### One of two -/

def altL {X Y : Type} [Inhabited Y] (x : Option X) : Option (X × Y) := obind x fun y => some (y, default)
def altR {X Y : Type} [Inhabited X] (x : Option Y) : Option (X × Y) := obind x fun y => some (default, y)
@[simp] theorem altL_some {X Y : Type} [Inhabited Y] (x : X) : altL (Y := Y) (some x) = some (x, default) := rfl
@[simp] theorem altR_some {X Y : Type} [Inhabited X] (x : Y) : altR (X := X) (some x) = some (default, x) := rfl

def Entry.alt (p : List AVal → List Ent → Bool) (params : List (Option Ty)) {X Y : Type} [Inhabited X] [Inhabited Y] (r1 : List AVal → List Ent → Option X) (r2 : List AVal → List Ent → Option Y) (o1 : List AVal → List Ent → X → GRes) (o2 : List AVal → List Ent → Y → GRes) : Entry :=
  { params, X := X × Y, run := fun a o => match p a o with | true => altL (r1 a o) | false => altR (r2 a o), out := fun a o x => match p a o with | true => o1 a o x.1 | false => o2 a o x.2 }

theorem Does.alt {f : FuncId} {p : List AVal → List Ent → Bool} {params : List (Option Ty)} {X Y : Type} [Inhabited X] [Inhabited Y] {r1 : List AVal → List Ent → Option X} {r2 : List AVal → List Ent → Option Y} {o1 : List AVal → List Ent → X → GRes} {o2 : List AVal → List Ent → Y → GRes}
    (h1 : Does P f { params, X, run := r1, out := o1 }) (h2 : Does P f { params, X := Y, run := r2, out := o2 }) : Does P f (Entry.alt p params r1 r2 o1 o2) := by
  intro w g β args olds vals x h3 h4 h5
  have h5 : (match p args olds with | true => altL (r1 args olds) | false => altR (r2 args olds)) = some x := h5
  cases hp : p args olds with
  | true =>
    rw [hp] at h5
    cases hr : r1 args olds with
    | none => rw [hr] at h5; cases h5
    | some y =>
      rw [hr] at h5
      obtain rfl : (y, default) = x := Option.some.inj h5
      have := h1 w g β args olds vals y h3 h4 hr
      have e : (Entry.alt p params r1 r2 o1 o2).out args olds (y, default) = o1 args olds y := by show (match p args olds with | true => o1 args olds y | false => o2 args olds default) = _; rw [hp]
      rw [e]
      exact this
  | false =>
    rw [hp] at h5
    cases hr : r2 args olds with
    | none => rw [hr] at h5; cases h5
    | some y =>
      rw [hr] at h5
      obtain rfl : (default, y) = x := Option.some.inj h5
      have := h2 w g β args olds vals y h3 h4 hr
      have e : (Entry.alt p params r1 r2 o1 o2).out args olds (default, y) = o2 args olds y := by show (match p args olds with | true => o1 args olds default | false => o2 args olds y) = _; rw [hp]
      rw [e]
      exact this

def oneOld : List AVal → List Ent → Bool := fun _ olds => match olds with | [_] => true | _ => false
end
end Go.Ab
/-
  What a claim's reading says of an argument: data.
-/
namespace Go.Ab
open Go.ChangeShapes Go.WideShapes Go.ChangeAt Go.RowKit Go.Deep

/-- What is known of data that was read. -/
def Rng : (t : Ty) → t.den → Prop
  | .int k, x => (Lit.int k x).wf = true
  | .bool, _ => True
  | .str, s => (s : ByteArray).size ≤ maxLen
  | .slice t, l => (l : List t.den).length ≤ maxLen ∧ ∀ x ∈ (l : List t.den), Rng t x
  | .unit, _ => True
  | .pair a b, x => Rng a x.1 ∧ Rng b x.2
  | .arr n t, l => (l : List t.den).length = n ∧ ∀ x ∈ (l : List t.den), Rng t x

/-- Fields, one behind the other. -/
def fieldsTy (P : Program) (rd : TypeId → Ty → Bool) : Nat → List Field → Ty → Bool
  | _, [], .unit => true
  | off, f :: fs, .pair a b => Nat.beq f.offset off && (rd f.type a && (Nat.beq (P.cellsOf f.type) a.size && fieldsTy P rd (off + a.size) fs b))
  | _, _, _ => false

/-- Does data of a type of the program lie as such data? -/
def readTy (P : Program) : Nat → TypeId → Ty → Bool
  | 0, _, _ => false
  | n + 1, T, ty =>
    match P.underlying T, ty with
    | some (.int k), .int k' => decide (k = k')
    | some .bool, .bool => true
    | some .string, .str => true
    | some (.slice e), .slice t => readTy P n e t && Nat.beq (P.cellsOf e) t.size
    | some (.array k e), .arr k' t => Nat.beq k k' && (readTy P n e t && (Nat.beq (P.cellsOf e) t.size && Nat.beq (P.cellsOf T) (k * t.size)))
    | some (.struct fs), ty => fieldsTy P (readTy P n) 0 fs.toList ty && Nat.beq (P.cellsOf T) ty.size
    | _, _ => false

theorem beqN {a b : Nat} : (Nat.beq a b = true) = (a = b) := propext ⟨Nat.eq_of_beq_eq_true, fun h => by subst h; exact Nat.beq_refl a⟩

theorem mapM_get {α β : Type} {f : α → Option β} : ∀ {l : List α} {r : List β}, l.mapM f = some r → r.length = l.length ∧ ∀ (i : Nat) (x : α), l[i]? = some x → f x = r[i]?
  | [], r, h => by
    simp only [List.mapM_nil, Option.pure_def, Option.some.injEq] at h
    subst h
    exact ⟨rfl, fun i x h => by simp at h⟩
  | y :: l, r, h => by
    simp only [List.mapM_cons, Option.bind_eq_bind, Option.pure_def, Option.bind_eq_some_iff, Option.some.injEq] at h
    obtain ⟨b, hb, r', hr, rfl⟩ := h
    obtain ⟨h1, h2⟩ := mapM_get hr
    refine ⟨by simp [h1], fun i x hi => ?_⟩
    cases i with
    | zero =>
      simp only [List.getElem?_cons_zero, Option.some.injEq] at hi
      subst hi
      simpa using hb
    | succ i =>
      simp only [List.getElem?_cons_succ] at hi ⊢
      exact h2 i x hi

theorem cells_get {w : World} {base : Nat} {a : Addr} {n : Nat} {cs : List Value} (h : w.cells? base a n = some cs) : cs.length = n ∧ ∀ i, i < n → w.cell? (a.add i) = cs[i]? := by
  unfold World.cells? at h
  split at h
  · obtain ⟨h1, h2⟩ := mapM_get h
    exact ⟨by simpa using h1, fun i hi => h2 i i (by simp [hi])⟩
  · cases h

theorem add_add (a : Addr) (x y : Nat) : (a.add x).add y = a.add (x + y) := by
  unfold Addr.add
  by_cases hx : x = 0 <;> by_cases hy : y = 0 <;> simp [hx, hy, Nat.add_assoc]

theorem spot_none {w : World} {a : Addr} {v : Value} (h : w.cell? a = some v) : a.spot = none := by
  unfold World.cell? at h
  split at h
  · split at h
    · cases h
    · rename_i hs
      cases hh : a.spot with
      | none => rfl
      | some _ => simp [hh] at hs
  · cases h

theorem row_at {E : Env} (hg : ∀ b, E.g b = .free) {a : Addr} {vs : List Value} (h : ∀ i, i < vs.length → E.w.cell? (a.add i) = vs[i]?) : RowAt E (some a) vs := by
  intro i v hv
  have hi : i < vs.length := (List.getElem?_eq_some_iff.1 hv).1
  have h0 := h 0 (by omega)
  rw [List.getElem?_eq_getElem (by omega)] at h0
  have hs : a.spot = none := spot_none (a := a) (by simpa [Addr.add] using h0)
  obtain ⟨b, off, sp⟩ := a
  simp only at hs
  subst hs
  refine ⟨b, off, rfl, ?_, ?_⟩
  · have := h i hi
    rw [hv] at this
    rw [← this]
    unfold Addr.add
    split
    · rename_i h; subst h; rfl
    · rfl
  · unfold okAt
    rw [hg b]
    trivial

section
variable {H : Type} {enc : TypeId × Value → H} {P : Program} {base : Nat} {spare : Nat → Bool} {held : Bool} {E : Env}

/-- Elements, one behind the other. -/
theorem rows_of {t : Ty} {R : List Value → t.den → Prop} {G : t.den → Prop} {w : World} {a : Addr} {z : Nat} (hR : ∀ c x, R c x → c.length = z) : ∀ (len : Nat), (∀ i, i < len → ∃ c x, R c x ∧ G x ∧ ∀ j, j < z → w.cell? (a.add (i * z + j)) = c[j]?) →
    ∃ (vs : List Value) (l : List t.den), vs.length = len * z ∧ l.length = len ∧ (∀ i, i < vs.length → w.cell? (a.add i) = vs[i]?) ∧ Chunks R vs l ∧ ∀ x ∈ l, G x
  | 0, _ => ⟨[], [], by simp, rfl, fun i h => by simp at h, rfl, fun _ h => by cases h⟩
  | len + 1, h => by
    obtain ⟨vs, l, h1, h2, h3, h4, h5⟩ := rows_of hR len fun i hi => h i (by omega)
    obtain ⟨c, x, g1, g2, g3⟩ := h len (by omega)
    have hc := hR c x g1
    refine ⟨vs ++ c, l ++ [x], by rw [List.length_append, h1, hc, Nat.add_mul, Nat.one_mul], by rw [List.length_append, h2]; rfl, fun i hi => ?_, Chunks.append h4 ⟨c, [], by simp, g1, rfl⟩, fun y hy => ?_⟩
    · rw [List.length_append, h1, hc] at hi
      by_cases hl : i < vs.length
      · rw [h3 i hl, List.getElem?_append_left hl]
      · rw [List.getElem?_append_right (by omega), h1, ← g3 (i - len * z) (by omega), show len * z + (i - len * z) = i by omega]
    · rcases List.mem_append.1 hy with hy | hy
      · exact h5 y hy
      · rw [List.mem_singleton.1 hy]; exact g2

/-- Elements in a row of cells. -/
theorem chunks_of {t : Ty} {R : List Value → t.den → Prop} {G : t.den → Prop} {z : Nat} : ∀ (n : Nat) (cs : List Value), cs.length = n * z → (∀ i, i < n → ∃ x, R ((cs.drop (i * z)).take z) x ∧ G x) →
    ∃ l : List t.den, l.length = n ∧ Chunks R cs l ∧ ∀ x ∈ l, G x
  | 0, cs, h, _ => ⟨[], rfl, List.eq_nil_of_length_eq_zero (by simpa using h), fun _ h => by cases h⟩
  | n + 1, cs, h, hi => by
    obtain ⟨x, g1, g2⟩ := hi 0 (by omega)
    obtain ⟨l, h1, h2, h3⟩ := chunks_of (R := R) (G := G) (z := z) n (cs.drop z) (by rw [List.length_drop, h, Nat.add_mul]; omega) fun i hin => by
      obtain ⟨y, k1, k2⟩ := hi (i + 1) (by omega)
      refine ⟨y, ?_, k2⟩
      rw [List.drop_drop, show z + i * z = (i + 1) * z by rw [Nat.add_mul]; omega]
      exact k1
    refine ⟨x :: l, by simp [h1], ⟨cs.take z, cs.drop z, (List.take_append_drop z cs).symm, by simpa using g1, h2⟩, fun y hy => ?_⟩
    rcases List.mem_cons.1 hy with rfl | hy
    · exact g2
    · exact h3 y hy

theorem read_fields {rd : TypeId → Ty → Bool} {cs : List Value} : ∀ (fs : List Field) (off : Nat) (ty : Ty), fieldsTy P rd off fs ty = true → off + ty.size ≤ cs.length →
    (∀ f ∈ fs, ∀ t, rd f.type t = true → P.cellsOf f.type = t.size → ∃ v, Rep E t ((cs.drop f.offset).take (P.cellsOf f.type)) v ∧ Rng t v) → ∃ v, Rep E ty ((cs.drop off).take ty.size) v ∧ Rng ty v
  | [], off, ty, h, hl, _ => by
    cases ty <;> simp only [fieldsTy] at h <;> first | cases h | skip
    exact ⟨(), by simp [Rep, Ty.size], trivial⟩
  | f :: fs, off, ty, h, hl, hf => by
    cases ty <;> simp only [fieldsTy] at h <;> first | cases h | skip
    rename_i a b
    simp only [Bool.and_eq_true, beqN] at h
    obtain ⟨h1, h2, h3, h4⟩ := h
    have hl : off + (a.size + b.size) ≤ cs.length := hl
    obtain ⟨v, k1, k2⟩ := hf f (List.mem_cons_self ..) a h2 h3
    obtain ⟨u, k3, k4⟩ := read_fields fs (off + a.size) b h4 (by omega) fun f' hf' => hf f' (List.mem_cons_of_mem _ hf')
    refine ⟨(v, u), ⟨(cs.drop off).take a.size, (cs.drop (off + a.size)).take b.size, ?_, ?_, k3⟩, k2, k4⟩
    · rw [show Ty.size (.pair a b) = a.size + b.size from rfl, List.take_add, List.drop_drop]
    · rw [h1, h3] at k1; exact k1

theorem read_rep (hg : ∀ b, E.g b = .free) : ∀ (n : Nat) (T : TypeId) (ty : Ty), readTy P n T ty = true → ∀ {fuel : Nat} {cs : List Value} {x : DataW H × List MemPlace}, DataW.trod enc P E.w base spare held fuel T cs = some x → ∃ v, Rep E ty cs v ∧ Rng ty v
  | 0, _, _, h, _, _, _, _ => by simp [readTy] at h
  | n + 1, T, ty, h, fuel, cs, x, hx => by
    unfold readTy at h
    split at h
    · rename_i k k' hu
      obtain rfl := of_decide_eq_true h
      obtain ⟨m, rfl, _, hw⟩ := DataW.trod_int hu hx
      exact ⟨m, rfl, hw⟩
    · rename_i hu
      obtain ⟨b, rfl, _⟩ := DataW.trod_bool hu hx
      exact ⟨b, rfl, trivial⟩
    · rename_i hu
      obtain ⟨s, rfl, _, hs⟩ := DataW.trod_string hu hx
      exact ⟨s, rfl, hs⟩
    · rename_i e t hu
      simp only [Bool.and_eq_true, beqN] at h
      obtain ⟨h1, h2⟩ := h
      rcases open_slice hu hx with ⟨rfl, _⟩ | ⟨a, len, cap, m, f, D, Pl, rfl, _, hl, hm, hmm, _, he⟩
      · exact ⟨([] : List t.den), ⟨none, 0, [], rfl, Nat.le_refl _, fun h => by simp at h, fun i v hv => by simp at hv, rfl⟩, Nat.zero_le _, fun _ h => by cases h⟩
      · have hlm : len ≤ m := by rw [hmm]; split <;> omega
        obtain ⟨vs, l, k1, k2, k3, k4, k5⟩ := rows_of (t := t) (R := Rep E t) (G := Rng t) (w := E.w) (a := a) (z := t.size) (fun c x h => Rep.size h) len fun i hi => by
          obtain ⟨cs', g1, g2⟩ := he i (by omega)
          obtain ⟨v, g3, g4⟩ := read_rep hg n e t h1 g2
          obtain ⟨g5, g6⟩ := cells_get g1
          refine ⟨cs', v, g3, g4, fun j hj => ?_⟩
          rw [← g6 j (by omega), add_add, h2]
        refine ⟨l, ⟨some a, cap, vs, by rw [k2], by rw [k2]; exact hl, fun _ => rfl, row_at hg k3, k4⟩, by rw [k2]; omega, k5⟩
    · rename_i k e k' t hu
      simp only [Bool.and_eq_true, beqN] at h
      obtain ⟨rfl, h1, h2, h3⟩ := h
      obtain ⟨xs, m, rfl, _, hl, hxl, he⟩ := DataW.trod_array hu hx
      obtain ⟨l, k1, k2, k3⟩ := chunks_of (t := t) (R := Rep E t) (G := Rng t) (z := t.size) k cs (by rw [hl, h3]) fun i hi => by
        have := he i hi
        rw [List.getElem?_eq_getElem (by omega), h2] at this
        exact read_rep hg n e t h1 this
      exact ⟨l, ⟨k1, k2⟩, k1, k3⟩
    · rename_i ty fs hu
      simp only [Bool.and_eq_true, beqN] at h
      obtain ⟨h1, h2⟩ := h
      obtain ⟨xs, m, rfl, _, hl, hxl, he⟩ := DataW.trod_struct hu hx
      obtain ⟨v, k1, k2⟩ := read_fields (E := E) (cs := cs) fs.toList 0 _ h1 (by rw [hl, h2]; omega) fun f hf t ht hc => by
        obtain ⟨i, hi, hfi⟩ := List.mem_iff_getElem.1 hf
        have hi' : i < fs.size := by simpa using hi
        have := he i f (by rw [← hfi]; simp [hi'])
        rw [List.getElem?_eq_getElem (by omega)] at this
        exact read_rep hg n f.type t ht this
      refine ⟨v, ?_, k2⟩
      rwa [List.drop_zero, List.take_of_length_le (by omega)] at k1
    · cases h
end
end Go.Ab

/-
  From what a function does to a claim's row: every argument reads behind the call as it read before.
-/
namespace Go.Ab
open Go.ChangeShapes Go.WideShapes Go.ChangeAt Go.RowKit Go.Deep

section
variable {H : Type} {enc : TypeId × Value → H} {P : Program} {base b0 : Nat} {spare : Nat → Bool} {held : Bool} {E : Env} {W : World}

theorem fields_agg {rd : TypeId → Ty → Bool} {fs : List Field} {off : Nat} {ty : Ty} (h : fieldsTy P rd off fs ty = true) : ty.agg = true := by
  cases fs <;> cases ty <;> first | rfl | (simp [fieldsTy] at h)

theorem read_arg (hw : E.w = W) (hg : ∀ b, E.g b = .free) {n : Nat} {t : TypeId} {ty : Ty} (h : readTy P n t ty = true) {v : Value} {d : DataW H} {ps : List MemPlace} (hval : Value.okWide P W .any base t v) (hd : DataW.Trod enc P W b0 spare held t v d ps) :
    ∃ x : ty.den, VS E (.d ty x) v ∧ Rng ty x := by
  subst hw
  obtain ⟨fuel, hf⟩ := hd
  obtain ⟨x, h1, h2⟩ := read_rep hg n t ty h hf
  refine ⟨x, ⟨v.cells.toList, h1, ?_⟩, h2⟩
  cases n with
  | zero => simp [readTy] at h
  | succ n =>
    unfold readTy at h
    split at h
    · rename_i k k' hu
      obtain ⟨m, rfl⟩ := okWide_int hu hval
      rfl
    · rename_i hu
      obtain ⟨m, rfl⟩ := okWide_bool hu hval
      rfl
    · rename_i hu
      obtain ⟨m, rfl⟩ := okWide_string hu hval
      rfl
    · rename_i hu
      obtain ⟨a, len, cap, rfl⟩ := okWide_slice hu hval
      rfl
    · rename_i hu
      simp only [Value.okWide, hu] at hval
      obtain ⟨cs, rfl, _⟩ := hval
      show _ = _
      simp [Value.cells]
    · rename_i fs hu
      simp only [Value.okWide, hu] at hval
      obtain ⟨cs, rfl, _⟩ := hval
      simp only [Bool.and_eq_true] at h
      have := fields_agg h.1
      simp only [AVal.agg, this, OfCells, Value.cells, Array.toArray_toList]
    · cases h

/-- Data of several types. -/
def DV : List Ty → Type
  | [] => Unit
  | t :: ts => t.den × DV ts
def DV.vals : (ts : List Ty) → DV ts → List AVal
  | [], _ => []
  | t :: ts, x => .d t x.1 :: DV.vals ts x.2
def DV.rng : (ts : List Ty) → DV ts → Prop
  | [], _ => True
  | t :: ts, x => Rng t x.1 ∧ DV.rng ts x.2
def readTys (P : Program) (n : Nat) : List TypeId → List Ty → Bool
  | [], [] => true
  | T :: Ts, t :: ts => readTy P n T t && readTys P n Ts ts
  | _, _ => false

theorem read_args (hw : E.w = W) (hg : ∀ b, E.g b = .free) {n : Nat} : ∀ {Ts : List TypeId} {ts : List Ty} {vs : List Value} {ds : List (DataW H)} {ps : List MemPlace}, readTys P n Ts ts = true →
    (∀ (j : Nat) t v, Ts[j]? = some t → vs[j]? = some v → Value.okWide P W .any base t v) → DataW.TrodAll enc P W b0 spare held Ts vs ds ps → ∃ x : DV ts, VSs E (DV.vals ts x) vs ∧ DV.rng ts x
  | [], [], vs, ds, ps, _, _, h => by
    obtain ⟨rfl, rfl, rfl⟩ := trodAll_nil h
    exact ⟨(), trivial, trivial⟩
  | T :: Ts, [], _, _, _, h, _, _ => by simp [readTys] at h
  | [], t :: ts, _, _, _, h, _, _ => by simp [readTys] at h
  | T :: Ts, t :: ts, vs, ds, ps, h, hval, hd => by
    simp only [readTys, Bool.and_eq_true] at h
    obtain ⟨v, vs', d, ds', p, q, rfl, rfl, rfl, h1, h2⟩ := trodAll_cons hd
    obtain ⟨x, k1, k2⟩ := read_arg hw hg h.1 (hval 0 T v rfl rfl) h1
    obtain ⟨y, k3, k4⟩ := read_args hw hg h.2 (fun j t v hj hv => hval (j + 1) t v (by simpa using hj) (by simpa using hv)) h2
    exact ⟨(x, y), ⟨k1, k3⟩, ⟨k2, k4⟩⟩

/-- Types that can be read. -/
def readableAll (P : Program) (Ts : List TypeId) : Bool := Ts.all fun t => P.readableRec t && decide (t < P.types.size)

theorem trodAll_stays (hl : laidOutB P = true) {W' : World} (hb : Below W.heap.size W W') (sp : Nat → Bool) : ∀ {Ts : List TypeId} {vs : List Value} {ds : List (DataW H)} {ps : List MemPlace}, readableAll P Ts = true → (∀ p ∈ ps, p.block < W.heap.size) → (∀ p ∈ ps, sp p.block = true) →
    DataW.TrodAll enc P W 0 (fun _ => true) true Ts vs ds ps → DataW.TrodAll enc P W' 0 sp true Ts vs ds ps
  | [], vs, ds, ps, _, _, _, h => by
    obtain ⟨rfl, rfl, rfl⟩ := trodAll_nil h
    exact trodAll_mk0
  | T :: Ts, vs, ds, ps, hr, hlt, hs, h => by
    obtain ⟨v, vs', d, ds', p, q, rfl, rfl, rfl, h1, h2⟩ := trodAll_cons h
    simp only [readableAll, List.all_cons, Bool.and_eq_true, decide_eq_true_eq] at hr
    have h3 := WideElems.Trod_stays hl hr.1.1 hr.1.2 h1 (fun x hx => hb.same (hlt x (List.mem_append.2 (.inl hx)))) (fun x hx => hs x (List.mem_append.2 (.inl hx)))
    exact ⟨p, q, h3, trodAll_stays hl hb sp (by simpa [readableAll] using hr.2) (fun x hx => hlt x (List.mem_append.2 (.inr hx))) (fun x hx => hs x (List.mem_append.2 (.inr hx))) h2, rfl⟩
end

theorem trodAll_length {H : Type} {enc : TypeId × Value → H} {P : Program} {W : World} {b0 : Nat} {spare : Nat → Bool} {held : Bool} : ∀ {Ts : List TypeId} {vs : List Value} {ds : List (DataW H)} {ps : List MemPlace}, DataW.TrodAll enc P W b0 spare held Ts vs ds ps → ds.length = Ts.length
  | [], _, _, _, h => by
    obtain ⟨_, rfl, _⟩ := trodAll_nil h
    rfl
  | _ :: _, _, _, _, h => by
    obtain ⟨v, vs', d, ds', p, q, rfl, rfl, rfl, h1, h2⟩ := trodAll_cons h
    simp [trodAll_length h2]

/-- The row's part behind the call, where every block that was there is as it was. -/
theorem post_of_old {H : Type} {enc : TypeId × Value → H} {P : Program} {f : Func} {s : ChangeSpec} {W W' : World} {args : Array Value} {v : Value} {ds gs : List (DataW H)} {before : List MemPlace} {tb : TypeId}
    (hl : laidOutB P = true) (hra : readableAll P f.params.toList = true) (hvars : s.vars = []) (htb : f.resultTypes = #[tb]) (hub : P.underlying tb = some .bool)
    (hW : DataW.Whole enc P f.params.toList s.vars false W args.toList ds gs before) (hfn : s.fn H (ds ++ gs) = { results := [.lit (.bool true)], args := ds }) (hb : Below W.heap.size W W') (hv : v = .bool true) :
    s.post enc P f false true false false W args v W' := by
  subst hv
  have hW' := hW
  have hold : ∀ p ∈ before, (fun b => decide (b < W.heap.size)) p.block = true := fun p hp => by simpa using hW.lt p hp
  obtain ⟨p, q, hA, hV, rfl, hz, _⟩ := hW
  rw [hvars] at hV
  obtain ⟨rfl, rfl⟩ := trodVars_none hV
  have hlt : ∀ x ∈ p, x.block < W.heap.size := fun x hx => hW'.lt x (List.mem_append.2 (.inl hx))
  have hargs : ∀ sp : Nat → Bool, (∀ x ∈ p, sp x.block = true) → DataW.TrodAll enc P W' 0 sp true f.params.toList args.toList (s.fn H (ds ++ [])).args p := fun sp hs => by
    rw [hfn]
    exact trodAll_stays hl hb sp hra hlt hs hA
  have hres : ∀ (b : Nat) (sp : Nat → Bool) (hd : Bool), DataW.TrodAll enc P W' b sp hd f.resultTypes.toList ((Value.bool true).resultList f.resultTypes.size) (s.fn H (ds ++ [])).results [] := fun b sp hd => by
    rw [hfn, htb]
    exact trodAll_mk1 (shut_bool hub _)
  have hvs : ∀ sp : Nat → Bool, DataW.TrodVars enc P W' sp s.vars (s.fn H (ds ++ [])).vars [] := fun sp => by
    rw [hfn, hvars]
    rfl
  refine ⟨ds, [], p ++ [], [], p, [], hW', hres _ _ _, hargs _ (fun x hx => hold x (List.mem_append.2 (.inl hx))), hvs _, hb.frame _, fun h => by cases h⟩

theorem readTys_length {P : Program} {n : Nat} : ∀ {Ts : List TypeId} {ts : List Ty}, readTys P n Ts ts = true → Ts.length = ts.length
  | [], [], _ => rfl
  | [], _ :: _, h => by simp [readTys] at h
  | _ :: _, [], h => by simp [readTys] at h
  | _ :: _, _ :: _, h => by
    simp only [readTys, Bool.and_eq_true] at h
    simp [readTys_length h.2]

/-- A law that is true of all data: its call. -/
theorem law_calls {H : Type} {enc : TypeId × Value → H} {P : Program} {f : FuncId} {fn : Func} {en : Entry} {s : ChangeSpec} {tb : TypeId} (n : Nat) (tys : List Ty) (hD : Does P f en) (hf : P.funcs[f]? = some fn) (hbody : fn.body.isSome = true) (hname : (fn.name == "runtime.NumGoroutine") = false)
    (hl : laidOutB P = true) (hread : readTys P n fn.params.toList tys = true) (hra : readableAll P fn.params.toList = true) (hvars : s.vars = []) (htb : fn.resultTypes = #[tb]) (hub : P.underlying tb = some .bool)
    (hfn : ∀ ds : List (DataW H), ds.length = tys.length → s.fn H (ds ++ []) = { results := [.lit (.bool true)], args := ds })
    (hrun : ∀ x : DV tys, DV.rng tys x → ∃ r, en.run (DV.vals tys x) [] = some r ∧ en.out (DV.vals tys x) [] r = ⟨.d .bool true, [], []⟩)
    {W : World} {base : Nat} {args : Array Value} {ds gs : List (DataW H)} {before : List MemPlace}
    (hval : ∀ (j : Nat) t v, fn.params[j]? = some t → args[j]? = some v → Value.okWide P W .any base t v)
    (hW : DataW.Whole enc P fn.params.toList s.vars false W args.toList ds gs before) :
    Calls P f args W fun e W' => ∃ v, e = .returned v ∧ s.post enc P fn false true false false W args v W' := by
  have hW' := hW
  obtain ⟨p, q, hA, hV, _, _, _⟩ := hW
  rw [hvars] at hV
  obtain ⟨rfl, rfl⟩ := trodVars_none hV
  obtain ⟨x, hx1, hx2⟩ := read_args (E := (lent []).env W (fun _ => .free) (fun _ => none)) rfl (fun _ => rfl) hread (fun j t v hj hv => hval j t v (by simpa using hj) (by simpa using hv)) hA
  obtain ⟨r, hr1, hr2⟩ := hrun x hx2
  have hent : (callFunc f args).run P W = .ok (.enter f args) W := by
    unfold callFunc
    obtain ⟨c, hc⟩ := Option.isSome_iff_exists.1 hbody
    have hname' : ¬ fn.name = "runtime.NumGoroutine" := by simpa using hname
    simp [hf, hname', hc]
  have hlen : ds.length = tys.length := by rw [trodAll_length hA, readTys_length hread]
  have ho : Objs ((lent []).env W (fun _ => .free) (fun _ => none)) := fun id ver fr c h => by
    exfalso
    cases id with
    | old k => simp [AS.env, AS.ent, lent] at h
    | new i j => simp [AS.env, AS.ent, lent] at h
  rcases hD W (fun _ => .free) (fun _ => none) (DV.vals tys x) [] args.toList r hx1 ho hr1 with ⟨_, hc⟩ | ⟨v, w', hc, _⟩
  · refine hc.mono fun e w' he => ?_
    obtain ⟨v, rfl, g', β', h1, _, h2, _⟩ := he
    rw [hr2] at h1
    refine ⟨v, rfl, post_of_old hl hra hvars htb hub hW' (hfn ds hlen) ⟨h2.os, h2.tape, h2.output, h2.size, fun b hb => (h2.blk b hb).2⟩ ?_⟩
    obtain ⟨cs, k1, k2⟩ := h1
    have k1 : cs = [.bool true] := k1
    subst k1
    have k2 : [Value.bool true] = [v] := k2
    simpa using k2.symm
  · rw [show args.toList.toArray = args from Array.toArray_toList .., hent] at hc
    cases hc
end Go.Ab
namespace Go.Ab

abbrev W := BitVec 32
def rotr (w : W) (k : Nat) : W := w <<< (32 - k) ||| w >>> k

/-- The word of four bytes. -/
def be4 (a b c d : Int) : W := BitVec.ofInt 32 a <<< 24 ||| BitVec.ofInt 32 b <<< 16 ||| BitVec.ofInt 32 c <<< 8 ||| BitVec.ofInt 32 d
def be (l : List Int) (i : Nat) : W := be4 (l.getD (4 * i) 0) (l.getD (4 * i + 1) 0) (l.getD (4 * i + 2) 0) (l.getD (4 * i + 3) 0)

structure St where
  a : W
  b : W
  c : W
  d : W
  e : W
  f : W
  g : W
  h : W

def St.l (s : St) : List Int := [vw s.a, vw s.b, vw s.c, vw s.d, vw s.e, vw s.f, vw s.g, vw s.h]

def sig0 (x : W) : W := rotr x 7 ^^^ rotr x 18 ^^^ x >>> 3
def sig1 (y : W) : W := rotr y 17 ^^^ rotr y 19 ^^^ y >>> 10
def nextw (l : List W) (i : Nat) : W := l.getD (i - 16) 0 + sig0 (l.getD (i - 15) 0) + l.getD (i - 7) 0 + sig1 (l.getD (i - 2) 0)
def ext (l : List W) : List W := l ++ [nextw l l.length]
def wsN (m : List W) : Nat → List W
  | 0 => m
  | n + 1 => ext (wsN m n)
def words (b : List Int) : List W := (List.range 16).map (be b)
def sched (b : List Int) : List W := wsN (words b) 48

def kl : List Nat := [
    0x428a2f98, 0x71374491, 0xb5c0fbcf, 0xe9b5dba5, 0x3956c25b, 0x59f111f1, 0x923f82a4, 0xab1c5ed5,
    0xd807aa98, 0x12835b01, 0x243185be, 0x550c7dc3, 0x72be5d74, 0x80deb1fe, 0x9bdc06a7, 0xc19bf174,
    0xe49b69c1, 0xefbe4786, 0x0fc19dc6, 0x240ca1cc, 0x2de92c6f, 0x4a7484aa, 0x5cb0a9dc, 0x76f988da,
    0x983e5152, 0xa831c66d, 0xb00327c8, 0xbf597fc7, 0xc6e00bf3, 0xd5a79147, 0x06ca6351, 0x14292967,
    0x27b70a85, 0x2e1b2138, 0x4d2c6dfc, 0x53380d13, 0x650a7354, 0x766a0abb, 0x81c2c92e, 0x92722c85,
    0xa2bfe8a1, 0xa81a664b, 0xc24b8b70, 0xc76c51a3, 0xd192e819, 0xd6990624, 0xf40e3585, 0x106aa070,
    0x19a4c116, 0x1e376c08, 0x2748774c, 0x34b0bcb5, 0x391c0cb3, 0x4ed8aa4a, 0x5b9cca4f, 0x682e6ff3,
    0x748f82ee, 0x78a5636f, 0x84c87814, 0x8cc70208, 0x90befffa, 0xa4506ceb, 0xbef9a3f7, 0xc67178f2]
def kw (i : Nat) : W := BitVec.ofNat 32 (kl.getD i 0)
def kint : List Int := kl.map fun (n : Nat) => (n : Int)

def rnd (s : St) (k w : W) : St :=
  let t := s.h + (rotr s.e 6 ^^^ rotr s.e 11 ^^^ rotr s.e 25) + (s.g ^^^ s.e &&& (s.f ^^^ s.g)) + k + w
  let r := rotr s.a 2 ^^^ rotr s.a 13 ^^^ rotr s.a 22
  let most := s.a &&& s.b ||| s.c &&& (s.a ||| s.b)
  ⟨t + r + most, s.a, s.b, s.c, s.d + t, s.e, s.f, s.g⟩
def rounds (ws : List W) (s : St) : Nat → St
  | 0 => s
  | n + 1 => rnd (rounds ws s n) (kw n) (ws.getD n 0)
def mixS (s : St) (b : List Int) : St :=
  let v := rounds (sched b) s 64
  ⟨v.a + s.a, v.b + s.b, v.c + s.c, v.d + s.d, v.e + s.e, v.f + s.f, v.g + s.g, v.h + s.h⟩

def first0 : St := ⟨0x6a09e667, 0xbb67ae85, 0x3c6ef372, 0xa54ff53a, 0x510e527f, 0x9b05688c, 0x1f83d9ab, 0x5be0cd19⟩

def blocksN : Nat → St → List Int → St
  | 0, s, _ => s
  | n + 1, s, l => blocksN n (mixS s (l.take 64)) (l.drop 64)
def blocks (s : St) (l : List Int) : St := blocksN (l.length / 64) s l

def byt (w : W) (k : Nat) : Int := vw ((w >>> (24 - 8 * k)).setWidth 8)
def by4 (w : W) : List Int := [byt w 0, byt w 1, byt w 2, byt w 3]
def outb (s : St) : List Int := by4 s.a ++ by4 s.b ++ by4 s.c ++ by4 s.d ++ by4 s.e ++ by4 s.f ++ by4 s.g ++ by4 s.h

/-- A number's eight bytes. -/
def be8 (n : Int) : List Int := [n / 2 ^ 56 % 256, n / 2 ^ 48 % 256, n / 2 ^ 40 % 256, n / 2 ^ 32 % 256, n / 2 ^ 24 % 256, n / 2 ^ 16 % 256, n / 2 ^ 8 % 256, n % 256]

def padn (n : Nat) : Nat := (119 - n % 64) % 64
def pad (b : List Int) : List Int := b ++ 128 :: (List.replicate (padn b.length) 0 ++ be8 (8 * b.length))
def sha (b : List Int) : List Int := outb (blocks first0 (pad b))
def tagp (parts : List (List Int)) : List Int := parts.flatMap fun p => be8 p.length ++ p
def tagb (name : List Int) (parts : List (List Int)) : List Int := be8 name.length ++ name ++ tagp parts
def tag (name : List Int) (parts : List (List Int)) : List Int := sha (tagb name parts)

theorem outb_length (s : St) : (outb s).length = 32 := rfl
theorem sha_length (b : List Int) : (sha b).length = 32 := rfl
theorem be8_length (n : Int) : (be8 n).length = 8 := rfl
theorem ext_length (l : List W) : (ext l).length = l.length + 1 := by simp [ext]
theorem wsN_length (m : List W) : ∀ n, (wsN m n).length = m.length + n
  | 0 => rfl
  | n + 1 => by rw [wsN, ext_length, wsN_length m n]; omega
theorem words_length (b : List Int) : (words b).length = 16 := by simp [words]

theorem blocksN_append : ∀ (n : Nat) (s : St) (a b : List Int), a.length = 64 * n → ∀ m, blocksN (n + m) s (a ++ b) = blocksN m (blocksN n s a) b
  | 0, s, a, b, h, m => by
    have : a = [] := List.eq_nil_of_length_eq_zero (by omega)
    subst this
    simp [blocksN]
  | n + 1, s, a, b, h, m => by
    rw [show n + 1 + m = (n + m) + 1 by omega, blocksN, blocksN]
    rw [List.take_append_of_le_length (by omega), List.drop_append_of_le_length (by omega)]
    exact blocksN_append n _ _ _ (by simp; omega) m

theorem blocks_append (s : St) (a b : List Int) (h : a.length % 64 = 0) : blocks s (a ++ b) = blocks (blocks s a) b := by
  unfold blocks
  have e : (a ++ b).length / 64 = a.length / 64 + b.length / 64 := by simp; omega
  rw [e]
  exact blocksN_append _ _ _ _ (by omega) _

theorem blocks_step (s : St) (l : List Int) (h : 64 ≤ l.length) : blocks s l = blocks (mixS s (l.take 64)) (l.drop 64) := by
  unfold blocks
  rw [show l.length / 64 = (l.drop 64).length / 64 + 1 by simp; omega]
  rfl
theorem blocks_end (s : St) (l : List Int) (h : l.length < 64) : blocks s l = s := by
  unfold blocks
  rw [show l.length / 64 = 0 by omega]
  rfl

def Byte (x : Int) : Prop := 0 ≤ x ∧ x < 256
def Bytes (l : List Int) : Prop := ∀ x ∈ l, Byte x

theorem byte_vw (w : BitVec 8) : Byte (vw w) := ⟨vw_nonneg w, vw_lt w⟩
theorem Byte.vw {x : Int} (h : Byte x) : x = vw (BitVec.ofInt 8 x) := by
  rw [vw_ofInt]
  obtain ⟨h1, h2⟩ := h
  omega
theorem bytes_outb (s : St) : Bytes (outb s) := by
  intro x hx
  simp only [outb, by4, List.mem_append, List.mem_cons, List.not_mem_nil, or_false] at hx
  rcases hx with ((((((hx | hx) | hx) | hx) | hx) | hx) | hx) | hx <;> rcases hx with rfl | rfl | rfl | rfl <;> exact byte_vw _
theorem bytes_sha (b : List Int) : Bytes (sha b) := bytes_outb _
theorem bytes_be8 (n : Int) : Bytes (be8 n) := by
  intro x hx
  simp only [be8, List.mem_cons, List.not_mem_nil, or_false] at hx
  rcases hx with rfl | rfl | rfl | rfl | rfl | rfl | rfl | rfl <;> exact ⟨by omega, by omega⟩

end Go.Ab
