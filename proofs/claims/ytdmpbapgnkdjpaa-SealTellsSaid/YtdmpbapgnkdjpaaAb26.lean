/-
  Code, results, functions: what the abstract machine says of a function, it does.
-/
import Derived.Test.YtdmpbapgnkdjpaaAb25
import Derived.Scope
namespace Go.Ab

section
variable {P : Program} {Γ : Gam} {an : Ann} {C : Ctx}

/-- What an entry says of its loop. -/
def LDo (P : Program) (Γ : Gam) (an : Ann) (N : Nat) (b : Code) : Prop :=
  ∀ le, an.sums (firstRegion b) = some le → ∀ s x, le.run s = some x →
    ∃ n, loopS (norm P (an.loops (firstRegion b))) (fun e => norm P (an.outs (firstRegion b) (isRet e))) (ev P Γ an N b) n s (fun e s' => some (e, s')) = (le.out x).eval

def LOk (P : Program) (Γ : Gam) (an : Ann) (N : Nat) : List Code → Prop
  | [] => True
  | b :: l => LDo P Γ an N b ∧ LOk P Γ an N l

theorem LOk.append {N : Nat} : ∀ {l l' : List Code}, LOk P Γ an N (l ++ l') → LOk P Γ an N l ∧ LOk P Γ an N l'
  | [], _, h => ⟨trivial, h⟩
  | _ :: _, _, ⟨h1, h2⟩ => ⟨⟨h1, (LOk.append h2).1⟩, (LOk.append h2).2⟩

theorem loop_sound {R : Type} {r : R} {b : Code} {nrm : AS → Out AS} {nrmX : Exit → AS → Out AS} {body : AS → (Exit → AS → Option R) → Option R}
    (hn : ∀ s s1 a w, Sts C s a w → (nrm s).eval = some s1 → Sts C s1 a w) (hx : ∀ e s s1 a w, Sts C s a w → (nrmX e s).eval = some s1 → Sts C s1 a w)
    (hb : ∀ (s : AS) (a : Act) (w : World) (k : Exit → AS → Option R) (Q : Exit → Act → World → Prop), Sts C s a w → body s k = some r → (∀ e s' a' w', Sts C s' a' w' → k e s' = some r → Q e a' w') → b.wp P Q a w)
    {k : Exit → AS → Option R} {Q : Exit → Act → World → Prop} (hk : ∀ e s' a' w', Sts C s' a' w' → k e s' = some r → Q e a' w') :
    ∀ (n : Nat) (s : AS) (a : Act) (w : World), Sts C s a w → loopS nrm nrmX body n s k = some r → Code.rounds P b Q n a w
  | 0, s, a, w, _, h => by simp [loopS] at h
  | n + 1, s, a, w, hs, h => by
    simp only [loopS] at h
    rw [rounds_succ]
    refine hb s a w _ _ hs h fun e s' a' w' hs' hke => ?_
    have exits : ∀ e, (nrmX e s').run (k e) = some r → Q e a' w' := fun e hke => by
      obtain ⟨s1, h1, h2⟩ := run_some.1 hke
      exact hk e s1 a' w' (hx e s' s1 a' w' hs' h1) h2
    cases e with
    | normal =>
      simp only at hke
      obtain ⟨s1, h1, h2⟩ := run_some.1 hke
      exact loop_sound hn hx hb hk n s1 a' w' (hn s' s1 a' w' hs' h1) h2
    | _ => exact exits _ hke

theorem ev_sound (hm : P.follows .mixedOrders = true) (hΓ : Sound P Γ) (hC : ∀ i j, C.E.s (.new i j) = none) {N : Nat} : ∀ (c : Code), LOk P Γ an N (loopsOf c) → ∀ {R : Type} {r : R} (s : AS) (a : Act) (w : World) (k : Exit → AS → Option R) (Q : Exit → Act → World → Prop),
    Sts C s a w → ev P Γ an N c s k = some r → (∀ e s' a' w', Sts C s' a' w' → k e s' = some r → Q e a' w') → c.wp P Q a w
  | .skip, hL, _, _, s, a, w, k, Q, hs, h, hk => wp_skip (hk _ _ _ _ hs h)
  | .region id ops draw, hL, _, _, s, a, w, k, Q, hs, h, hk => by
    simp only [ev] at h
    cases draw with
    | true =>
      simp only at h
      split at h
      · rename_i hE
        exact region_draw hm hΓ hs hE h fun s' a' w' hs' hk' => hk _ _ _ _ hs' hk'
      · cases h
    | false => exact wp_region_list (gops_wpList hΓ ops.toList hs h fun s' a' w' hs' hk' => hk _ _ _ _ hs' hk')
  | .seq x y, hL, _, _, s, a, w, k, Q, hs, h, hk => by
    simp only [ev] at h
    refine wp_seq (ev_sound hm hΓ hC x hL.append.1 s a w _ _ hs h fun e s' a' w' hs' hk' => ?_)
    cases e with
    | normal => exact ev_sound hm hΓ hC y hL.append.2 s' a' w' k Q hs' hk' hk
    | _ => exact hk _ s' a' w' hs' hk'
  | .cond c x y, hL, _, _, s, a, w, k, Q, hs, h, hk => by
    simp only [ev] at h
    split at h
    · rename_i b hb
      have hc : a.eval c = .bool b := by
        obtain ⟨g, β, hi⟩ := hs
        have := hi.ev c
        rw [hb] at this
        exact bool_of this
      refine wp_cond hc ?_
      cases b with
      | true => exact ev_sound hm hΓ hC x hL.append.1 s a w k Q hs h hk
      | false => exact ev_sound hm hΓ hC y hL.append.2 s a w k Q hs h hk
    · cases h
  | .block id b, hL, _, _, s, a, w, k, Q, hs, h, hk => by
    simp only [ev] at h
    refine wp_block (ev_sound hm hΓ hC b hL s a w _ _ hs h fun e s' a' w' hs' hk' => ?_)
    cases e with
    | exit i =>
      simp only at hk'
      simp only [Exit.inBlock]
      by_cases hi : i = id
      · rw [if_pos hi]
        simp only [hi, decide_true] at hk'
        exact hk _ s' a' w' hs' hk'
      · rw [if_neg hi]
        simp only [hi, decide_false] at hk'
        exact hk _ s' a' w' hs' hk'
    | _ => exact hk _ s' a' w' hs' hk'
  | .loop b, hL, R, r, s, a, w, k, Q, hs, h, hk => by
    simp only [ev] at h
    obtain ⟨s1, h1, h⟩ := run_some.1 h
    have hs1 := norm_sound hC hs h1
    obtain ⟨hL1, hL2⟩ := (hL : LDo P Γ an N b ∧ LOk P Γ an N (loopsOf b))
    split at h
    · rename_i le hle
      unfold useSum at h
      cases hr : le.run s1 with
      | none => rw [hr] at h; cases h
      | some x =>
        rw [hr] at h
        simp only [obind] at h
        obtain ⟨y, hy, h⟩ := run_some.1 h
        obtain ⟨n, hn⟩ := hL1 le hle s1 x hr
        rw [hy] at hn
        refine wp_loop_rounds n (loop_sound (fun s s1 a w hs hn => norm_sound hC hs hn) (fun e s s1 a w hs hn => norm_sound hC hs hn) (fun s a w k Q hs hb hk => ev_sound hm hΓ hC b hL2 s a w k Q hs hb hk) (fun e s' a' w' hs' he => ?_) n s1 a w hs1 hn)
        simp only [Option.some.injEq] at he
        subst he
        exact hk e s' a' w' hs' h
    · exact wp_loop_rounds N (loop_sound (fun s s1 a w hs hn => norm_sound hC hs hn) (fun e s s1 a w hs hn => norm_sound hC hs hn) (fun s a w k Q hs hb hk => ev_sound hm hΓ hC b hL2 s a w k Q hs hb hk) hk N s1 a w hs1 h)
  | .exit id, hL, _, _, s, a, w, k, Q, hs, h, hk => wp_exit (hk _ _ _ _ hs h)
  | .ret, hL, _, _, s, a, w, k, Q, hs, h, hk => wp_ret (hk _ _ _ _ hs h)
  | .rangeFunc .., _, _, _, _, _, _, _, _, _, h, _ => by simp [ev] at h
  | .scope b, hL, _, _, s, a, w, k, Q, hs, h, hk => by
    simp only [ev] at h
    refine wp_scope_straight (ev_sound hm hΓ hC b hL s a w _ _ hs h fun e s' a' w' hs' hk' => ?_)
    cases e with
    | goto l => cases hk'
    | _ => exact hk _ s' a' w' hs' hk'
  | .label _, hL, _, _, s, a, w, k, Q, hs, h, hk => wp_label (hk _ _ _ _ hs h)
  | .goto _, _, _, _, _, _, _, _, _, _, h, _ => by simp [ev] at h
  | .refuse _, _, _, _, _, _, _, _, _, _, h, _ => by simp [ev] at h

/-! ### Results -/

variable {g : Nat → Lab} {β : Id → Option Pl} {s : AS} {a : Act} {w : World}

def resOf (tmps : Array Value) (r : ResultVar) : Sem Value :=
  match r with
  | .tmp t => pure (tmps.getD t undef)
  | .cell a t => do loadVar t (← asAddr (tmps.getD a undef))

theorem resVal_sound (h : Inv C g β s a w) {r : ResultVar} {v : AVal} (he : (resVal P s r).eval = some v) : ∃ x, (resOf a.tmps r).run P w = .ok x w ∧ VS (s.env w g β) v x := by
  cases r with
  | tmp t =>
    simp only [resVal] at he
    obtain rfl := eval_ok.1 he
    exact ⟨_, by simp [resOf], h.slots t⟩
  | cell t T =>
    simp only [resVal] at he
    obtain ⟨ad, z, hy, hr, hv⟩ := load_sound h (h.slots t) he
    exact ⟨z, by simp [resOf, hy, asAddr, hr], hv⟩

theorem resOne_sound (h : Inv C g β s a w) {r : ResultVar} {o : Option Ty} {y : AS × AVal} (he : (resOne P s r o).eval = some y) :
    ∃ x g', (resOf a.tmps r).run P w = .ok x w ∧ Inv C g' β y.1 a w ∧ EnvLe (s.env w g β) (y.1.env w g' β) ∧ VS (y.1.env w g' β) y.2 x := by
  cases o with
  | none =>
    simp only [resOne] at he
    obtain ⟨v, h1, h2⟩ := eval_bind.1 he
    obtain rfl := eval_ok.1 h2
    obtain ⟨x, hx, hv⟩ := resVal_sound h h1
    exact ⟨x, g, hx, h, EnvLe.refl _, hv⟩
  | some t =>
    simp only [resOne] at he
    obtain ⟨v, h1, h2⟩ := eval_bind.1 he
    obtain ⟨d, h3, h4⟩ := eval_bind.1 h2
    obtain rfl := eval_ok.1 h4
    obtain ⟨x, hx, hv⟩ := resVal_sound h h1
    obtain ⟨g', i1, e1, _, cs, hR, hO⟩ := toTy_sound h hv h3
    exact ⟨x, g', hx, i1, e1, VS.of (a := .d t d) (cs := cs) (by simpa only [V] using hR) hO⟩

theorem resVals_sound : ∀ (l : List ResultVar) (ts : List (Option Ty)) {s : AS} {g : Nat → Lab} (_ : Inv C g β s a w) {y : AS × AVal}, (resVals P s l ts).eval = some y →
    ∃ (xs : List Value) (g' : Nat → Lab), (l.mapM (resOf a.tmps)).run P w = .ok xs w ∧ Inv C g' β y.1 a w ∧ EnvLe (s.env w g β) (y.1.env w g' β) ∧ VC (y.1.env w g' β) y.2 xs ∧ xs.length = l.length
  | [], ts, s, g, h, y, he => by
    simp only [resVals] at he
    obtain rfl := eval_ok.1 he
    exact ⟨[], g, by simp, h, EnvLe.refl _, by simp [VC], rfl⟩
  | r :: l, ts, s, g, h, y, he => by
    simp only [resVals] at he
    obtain ⟨u, h1, h2⟩ := eval_bind.1 he
    obtain ⟨hc, h2⟩ := eval_guard.1 h2
    obtain ⟨us, h3, h4⟩ := eval_bind.1 h2
    obtain rfl := eval_ok.1 h4
    obtain ⟨x, g1, hx, i1, e1, hv⟩ := resOne_sound h h1
    obtain ⟨xs, g2, hxs, i2, e2, hvs, hl⟩ := resVals_sound l ts.tail i1 h3
    obtain ⟨cs, hV, hO⟩ := (hv.mono e2).celled hc
    refine ⟨x :: xs, g2, ?_, i2, e1.trans e2, by simp only [VC]; exact ⟨x, xs, cs, rfl, hV, hO, hvs⟩, by simp [hl]⟩
    simp only [List.mapM_cons, Sem.run_bind, hx, Result.andThen_ok, hxs, Sem.run_pure]

theorem VS_tuple {E : Env} {v : AVal} {xs : List Value} (h : VC E v xs) : VS E v (.tuple xs.toArray) := by
  cases v <;> first
    | (simp only [VC] at h; done)
    | exact ⟨xs, rfl, h⟩
    | (simp only [VC] at h; subst h; rfl)

theorem resultA_sound (h : Inv C g β s a w) {fn : Func} {ts : List (Option Ty)} {y : AS × AVal} (he : (resultA P fn ts s).eval = some y) :
    ∃ x g', (results fn a.tmps).run P w = .ok x w ∧ Inv C g' β y.1 a w ∧ VS (y.1.env w g' β) y.2 x := by
  have key : ∀ xs : List Value, (fn.results.toList.mapM (resOf a.tmps)).run P w = .ok xs w → (results fn a.tmps).run P w = .ok (if h : xs.length = 1 then xs[0] else .tuple xs.toArray) w := fun xs hxs => by
    have e : results fn a.tmps = (do
      let vs ← fn.results.mapM (resOf a.tmps)
      pure (if h : vs.size = 1 then vs[0] else .tuple vs)) := rfl
    rw [e, Array.mapM_eq_mapM_toList]
    simp only [map_eq_pure_bind, Sem.run_bind, hxs, Result.andThen_ok, Sem.run_pure]
    congr 1
  unfold resultA at he
  split at he
  · rename_i r hr
    obtain ⟨x, g', hx, hi, _, hv⟩ := resOne_sound h he
    refine ⟨x, g', ?_, hi, hv⟩
    rw [key [x] (by simp [hr, hx])]
    simp
  · rename_i rs hne
    obtain ⟨xs, g', hx, hi, _, hv, hl⟩ := resVals_sound _ _ h he
    refine ⟨.tuple xs.toArray, g', ?_, hi, VS_tuple hv⟩
    rw [key xs hx, dif_neg]
    rw [hl]
    intro h1
    obtain ⟨r, hr⟩ := List.length_eq_one_iff.1 h1
    exact hne r hr

end
end Go.Ab
