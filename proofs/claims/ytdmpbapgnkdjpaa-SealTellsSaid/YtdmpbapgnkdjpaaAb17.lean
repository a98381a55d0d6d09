/-
  Calls: the operation.
-/
import Derived.Test.YtdmpbapgnkdjpaaAb16
namespace Go.Ab

theorem reach_nodup (s : AS) : ∀ (n : Nat) (todo acc : List Id), acc.Nodup → (s.reach n todo acc).Nodup
  | 0, _, acc, h => by simpa [AS.reach] using h
  | _ + 1, [], acc, h => by simpa [AS.reach] using h
  | n + 1, id :: todo, acc, h => by
    rw [AS.reach]
    split
    · exact reach_nodup s n todo acc h
    · rename_i hc
      refine reach_nodup s n _ _ ?_
      rw [List.nodup_append]
      refine ⟨h, by simp, fun x hx y hy e => ?_⟩
      simp only [List.mem_singleton] at hy
      subst hy e
      exact hc (by simpa using hx)

theorem lends_nodup (s : AS) (vs : List AVal) : (s.lends vs).Nodup := reach_nodup s _ _ _ (by simp)

section
variable {P : Program} {C : Ctx} {g : Nat → Lab} {β : Id → Option Pl} {s : AS} {a : Act} {w : World} {o : Oper}

theorem enter_runs (h : Inv C g β s a w) {f : FuncId} {en : Entry} (hd : Does P f en) {ids : List Id} (hn : ids.Nodup) {vs : List AVal} {ys : List Value} (hv : VSs (s.env w g β) vs ys)
    (hr : (execOp a.eval o).run P w = (callFunc f ys.toArray).run P w) {s' : AS} (he : (s.enter en o.dst ids vs).eval = some s') : Runs P o a w (Sts C s') := by
  unfold AS.enter at he
  obtain ⟨hall, he⟩ := eval_guard.1 he
  obtain ⟨x, hx, he⟩ := eval_get.1 he
  have hp : ∀ id ∈ ids, ∃ r, s.obj id = some r := fun id hid => by
    have := List.all_eq_true.1 hall id hid
    exact Option.isSome_iff_exists.1 this
  have hdo := hd w (fun b => labIn ids (g b)) (placeIn β ids) (vs.map (AVal.ren (s.refIn ids))) (ids.map (s.entIn ids)) ys x (VSs.ren (in_le ids) hv) (in_objs ids hn h.objs) hx
  have key : ∀ v w', After ((lent (ids.map (s.entIn ids))).env w (fun b => labIn ids (g b)) (placeIn β ids)) (en.out x) v w' → Sts C s' (a.put o.dst v) w' := by
    intro v w' ha
    unfold AS.back at he
    cases hdst : o.dst with
    | some t =>
      rw [hdst] at he
      obtain ⟨hg, he⟩ := eval_guard.1 he
      obtain rfl := eval_ok.1 he
      simp only [Bool.and_eq_true, beq_iff_eq, Bool.or_eq_true] at hg
      obtain ⟨hl, hg⟩ := hg
      have hvir : (en.out x).news = [] ∨ s.virgin t = true := by
        rcases hg with hg | hg
        · exact .inl (by simpa using hg)
        · exact .inr hg
      obtain ⟨g2, β2, h1, h2⟩ := back_sound h hn hp hl hvir ha
      exact ⟨g2, β2, h1.put (some t) h2⟩
    | none =>
      rw [hdst] at he
      obtain ⟨hg, he⟩ := eval_guard.1 he
      obtain rfl := eval_ok.1 he
      simp only [Bool.and_eq_true, beq_iff_eq] at hg
      obtain ⟨hl, hg⟩ := hg
      have hnew : (en.out x).news = [] := by simpa using hg
      obtain ⟨g2, β2, h1, _⟩ := back_sound (t := 0) h hn hp hl (.inl hnew) ha
      rw [hnew] at h1
      exact ⟨g2, β2, h1⟩
  rcases hdo with ⟨hen, hc⟩ | ⟨v, w', hva, ha⟩
  · exact .inr (.inr ⟨f, ys.toArray, w, hr.trans hen, hc.mono fun e w' ⟨v, he, ha⟩ => ⟨v, he, key v w' ha⟩⟩)
  · exact .inl ⟨v, w', hr.trans hva, key v w' ha⟩

theorem call_runs (h : Inv C g β s a w) {c : Call} {F : Operand} {f : FuncId} {caps : AVal} {en : Entry} (ho : o.op = .call c) (hc : c.callee = .value F) (hF : s.ev F = .fn f caps) (hd : Does P f en) {s' : AS}
    (he : (s.call en o.dst (c.args.toList.map s.ev ++ caps.list)).eval = some s') : Runs P o a w (Sts C s') := by
  obtain ⟨cal, args, tys⟩ := c
  simp only at hc he
  subst hc
  obtain ⟨vs, hy, hvc⟩ := fn_of (hF ▸ h.ev F)
  have hargs := (h.evs args.toList).append (VC_VSs hvc)
  have hr : (execOp a.eval o).run P w = (callFunc f (args.toList.map a.eval ++ vs).toArray).run P w := by
    have e1 : execOp a.eval o = (do let d ← resolve a.eval { callee := .value F, args, argTypes := tys } o.type; invoke d.target d.args) := by simp only [execOp, ho]
    rw [e1]
    simp only [resolve, hy, Deferred.ofValue, Sem.run_bind, Sem.run_pure, Result.andThen_ok, invoke]
    congr 2
    simp
  unfold AS.call at he
  obtain ⟨r, h1, h2⟩ := eval_bind.1 he
  obtain ⟨g', i1, e1, _, f1⟩ := freezeAll_sound r.2 h
  exact enter_runs i1 hd (lends_nodup _ _) (conv_rep rfl h.objs e1 _ _ _ r hargs h1 f1) hr h2

end
end Go.Ab
