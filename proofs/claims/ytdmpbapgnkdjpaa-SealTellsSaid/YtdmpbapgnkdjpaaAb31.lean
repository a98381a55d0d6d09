/-
  From what a function does to a claim's row: every argument reads behind the call as it read before.
-/
import Derived.Test.YtdmpbapgnkdjpaaAb30
import Derived.Carry
namespace Go.Ab
open Go.ChangeShapes Go.WideShapes Go.ChangeAt Go.RowKit Go.Deep

section
variable {H : Type} {enc : TypeId × Value → H} {P : Program} {base b0 : Nat} {spare : Nat → Bool} {held : Bool} {E : Env} {W : World}

theorem fields_agg {rd : TypeId → Ty → Bool} {fs : List Field} {off : Nat} {ty : Ty} (h : fieldsTy P rd off fs ty = true) : ty.agg = true := by
  cases fs <;> cases ty <;> first | rfl | (simp [fieldsTy] at h)

theorem read_arg (hw : E.w = W) (hg : ∀ b, E.g b = .free) {n : Nat} {t : TypeId} {ty : Ty} (h : readTy P n t ty = true) {v : Value} {d : DataW H} {ps : List MemPlace} (hval : Value.okWide P W .any base t v) (hd : DataW.Trod enc P W b0 spare held t v d ps) :
    ∃ x : ty.den, VS E (.d ty x) v ∧ Rng ty x := by
  subst hw
  obtain ⟨fuel, hf⟩ := hd
  obtain ⟨x, h1, h2⟩ := read_rep hg n t ty h hf
  refine ⟨x, ⟨v.cells.toList, h1, ?_⟩, h2⟩
  cases n with
  | zero => simp [readTy] at h
  | succ n =>
    unfold readTy at h
    split at h
    · rename_i k k' hu
      obtain ⟨m, rfl⟩ := okWide_int hu hval
      rfl
    · rename_i hu
      obtain ⟨m, rfl⟩ := okWide_bool hu hval
      rfl
    · rename_i hu
      obtain ⟨m, rfl⟩ := okWide_string hu hval
      rfl
    · rename_i hu
      obtain ⟨a, len, cap, rfl⟩ := okWide_slice hu hval
      rfl
    · rename_i hu
      simp only [Value.okWide, hu] at hval
      obtain ⟨cs, rfl, _⟩ := hval
      show _ = _
      simp [Value.cells]
    · rename_i fs hu
      simp only [Value.okWide, hu] at hval
      obtain ⟨cs, rfl, _⟩ := hval
      simp only [Bool.and_eq_true] at h
      have := fields_agg h.1
      simp only [AVal.agg, this, OfCells, Value.cells, Array.toArray_toList]
    · cases h

/-- Data of several types. -/
def DV : List Ty → Type
  | [] => Unit
  | t :: ts => t.den × DV ts
def DV.vals : (ts : List Ty) → DV ts → List AVal
  | [], _ => []
  | t :: ts, x => .d t x.1 :: DV.vals ts x.2
def DV.rng : (ts : List Ty) → DV ts → Prop
  | [], _ => True
  | t :: ts, x => Rng t x.1 ∧ DV.rng ts x.2
def readTys (P : Program) (n : Nat) : List TypeId → List Ty → Bool
  | [], [] => true
  | T :: Ts, t :: ts => readTy P n T t && readTys P n Ts ts
  | _, _ => false

theorem read_args (hw : E.w = W) (hg : ∀ b, E.g b = .free) {n : Nat} : ∀ {Ts : List TypeId} {ts : List Ty} {vs : List Value} {ds : List (DataW H)} {ps : List MemPlace}, readTys P n Ts ts = true →
    (∀ (j : Nat) t v, Ts[j]? = some t → vs[j]? = some v → Value.okWide P W .any base t v) → DataW.TrodAll enc P W b0 spare held Ts vs ds ps → ∃ x : DV ts, VSs E (DV.vals ts x) vs ∧ DV.rng ts x
  | [], [], vs, ds, ps, _, _, h => by
    obtain ⟨rfl, rfl, rfl⟩ := trodAll_nil h
    exact ⟨(), trivial, trivial⟩
  | T :: Ts, [], _, _, _, h, _, _ => by simp [readTys] at h
  | [], t :: ts, _, _, _, h, _, _ => by simp [readTys] at h
  | T :: Ts, t :: ts, vs, ds, ps, h, hval, hd => by
    simp only [readTys, Bool.and_eq_true] at h
    obtain ⟨v, vs', d, ds', p, q, rfl, rfl, rfl, h1, h2⟩ := trodAll_cons hd
    obtain ⟨x, k1, k2⟩ := read_arg hw hg h.1 (hval 0 T v rfl rfl) h1
    obtain ⟨y, k3, k4⟩ := read_args hw hg h.2 (fun j t v hj hv => hval (j + 1) t v (by simpa using hj) (by simpa using hv)) h2
    exact ⟨(x, y), ⟨k1, k3⟩, ⟨k2, k4⟩⟩

/-- Types that can be read. -/
def readableAll (P : Program) (Ts : List TypeId) : Bool := Ts.all fun t => P.readableRec t && decide (t < P.types.size)

theorem trodAll_stays (hl : laidOutB P = true) {W' : World} (hb : Below W.heap.size W W') (sp : Nat → Bool) : ∀ {Ts : List TypeId} {vs : List Value} {ds : List (DataW H)} {ps : List MemPlace}, readableAll P Ts = true → (∀ p ∈ ps, p.block < W.heap.size) → (∀ p ∈ ps, sp p.block = true) →
    DataW.TrodAll enc P W 0 (fun _ => true) true Ts vs ds ps → DataW.TrodAll enc P W' 0 sp true Ts vs ds ps
  | [], vs, ds, ps, _, _, _, h => by
    obtain ⟨rfl, rfl, rfl⟩ := trodAll_nil h
    exact trodAll_mk0
  | T :: Ts, vs, ds, ps, hr, hlt, hs, h => by
    obtain ⟨v, vs', d, ds', p, q, rfl, rfl, rfl, h1, h2⟩ := trodAll_cons h
    simp only [readableAll, List.all_cons, Bool.and_eq_true, decide_eq_true_eq] at hr
    have h3 := WideElems.Trod_stays hl hr.1.1 hr.1.2 h1 (fun x hx => hb.same (hlt x (List.mem_append.2 (.inl hx)))) (fun x hx => hs x (List.mem_append.2 (.inl hx)))
    exact ⟨p, q, h3, trodAll_stays hl hb sp (by simpa [readableAll] using hr.2) (fun x hx => hlt x (List.mem_append.2 (.inr hx))) (fun x hx => hs x (List.mem_append.2 (.inr hx))) h2, rfl⟩
end

theorem trodAll_length {H : Type} {enc : TypeId × Value → H} {P : Program} {W : World} {b0 : Nat} {spare : Nat → Bool} {held : Bool} : ∀ {Ts : List TypeId} {vs : List Value} {ds : List (DataW H)} {ps : List MemPlace}, DataW.TrodAll enc P W b0 spare held Ts vs ds ps → ds.length = Ts.length
  | [], _, _, _, h => by
    obtain ⟨_, rfl, _⟩ := trodAll_nil h
    rfl
  | _ :: _, _, _, _, h => by
    obtain ⟨v, vs', d, ds', p, q, rfl, rfl, rfl, h1, h2⟩ := trodAll_cons h
    simp [trodAll_length h2]

/-- The row's part behind the call, where every block that was there is as it was. -/
theorem post_of_old {H : Type} {enc : TypeId × Value → H} {P : Program} {f : Func} {s : ChangeSpec} {W W' : World} {args : Array Value} {v : Value} {ds gs : List (DataW H)} {before : List MemPlace} {tb : TypeId}
    (hl : laidOutB P = true) (hra : readableAll P f.params.toList = true) (hvars : s.vars = []) (htb : f.resultTypes = #[tb]) (hub : P.underlying tb = some .bool)
    (hW : DataW.Whole enc P f.params.toList s.vars false W args.toList ds gs before) (hfn : s.fn H (ds ++ gs) = { results := [.lit (.bool true)], args := ds }) (hb : Below W.heap.size W W') (hv : v = .bool true) :
    s.post enc P f false true false false W args v W' := by
  subst hv
  have hW' := hW
  have hold : ∀ p ∈ before, (fun b => decide (b < W.heap.size)) p.block = true := fun p hp => by simpa using hW.lt p hp
  obtain ⟨p, q, hA, hV, rfl, hz, _⟩ := hW
  rw [hvars] at hV
  obtain ⟨rfl, rfl⟩ := trodVars_none hV
  have hlt : ∀ x ∈ p, x.block < W.heap.size := fun x hx => hW'.lt x (List.mem_append.2 (.inl hx))
  have hargs : ∀ sp : Nat → Bool, (∀ x ∈ p, sp x.block = true) → DataW.TrodAll enc P W' 0 sp true f.params.toList args.toList (s.fn H (ds ++ [])).args p := fun sp hs => by
    rw [hfn]
    exact trodAll_stays hl hb sp hra hlt hs hA
  have hres : ∀ (b : Nat) (sp : Nat → Bool) (hd : Bool), DataW.TrodAll enc P W' b sp hd f.resultTypes.toList ((Value.bool true).resultList f.resultTypes.size) (s.fn H (ds ++ [])).results [] := fun b sp hd => by
    rw [hfn, htb]
    exact trodAll_mk1 (shut_bool hub _)
  have hvs : ∀ sp : Nat → Bool, DataW.TrodVars enc P W' sp s.vars (s.fn H (ds ++ [])).vars [] := fun sp => by
    rw [hfn, hvars]
    rfl
  refine ⟨ds, [], p ++ [], [], p, [], hW', hres _ _ _, hargs _ (fun x hx => hold x (List.mem_append.2 (.inl hx))), hvs _, hb.frame _, fun h => by cases h⟩

theorem readTys_length {P : Program} {n : Nat} : ∀ {Ts : List TypeId} {ts : List Ty}, readTys P n Ts ts = true → Ts.length = ts.length
  | [], [], _ => rfl
  | [], _ :: _, h => by simp [readTys] at h
  | _ :: _, [], h => by simp [readTys] at h
  | _ :: _, _ :: _, h => by
    simp only [readTys, Bool.and_eq_true] at h
    simp [readTys_length h.2]

/-- A law that is true of all data: its call. -/
theorem law_calls {H : Type} {enc : TypeId × Value → H} {P : Program} {f : FuncId} {fn : Func} {en : Entry} {s : ChangeSpec} {tb : TypeId} (n : Nat) (tys : List Ty) (hD : Does P f en) (hf : P.funcs[f]? = some fn) (hbody : fn.body.isSome = true) (hname : (fn.name == "runtime.NumGoroutine") = false)
    (hl : laidOutB P = true) (hread : readTys P n fn.params.toList tys = true) (hra : readableAll P fn.params.toList = true) (hvars : s.vars = []) (htb : fn.resultTypes = #[tb]) (hub : P.underlying tb = some .bool)
    (hfn : ∀ ds : List (DataW H), ds.length = tys.length → s.fn H (ds ++ []) = { results := [.lit (.bool true)], args := ds })
    (hrun : ∀ x : DV tys, DV.rng tys x → ∃ r, en.run (DV.vals tys x) [] = some r ∧ en.out r = ⟨.d .bool true, [], []⟩)
    {W : World} {base : Nat} {args : Array Value} {ds gs : List (DataW H)} {before : List MemPlace}
    (hval : ∀ (j : Nat) t v, fn.params[j]? = some t → args[j]? = some v → Value.okWide P W .any base t v)
    (hW : DataW.Whole enc P fn.params.toList s.vars false W args.toList ds gs before) :
    Calls P f args W fun e W' => ∃ v, e = .returned v ∧ s.post enc P fn false true false false W args v W' := by
  have hW' := hW
  obtain ⟨p, q, hA, hV, _, _, _⟩ := hW
  rw [hvars] at hV
  obtain ⟨rfl, rfl⟩ := trodVars_none hV
  obtain ⟨x, hx1, hx2⟩ := read_args (E := (lent []).env W (fun _ => .free) (fun _ => none)) rfl (fun _ => rfl) hread (fun j t v hj hv => hval j t v (by simpa using hj) (by simpa using hv)) hA
  obtain ⟨r, hr1, hr2⟩ := hrun x hx2
  have hent : (callFunc f args).run P W = .ok (.enter f args) W := by
    unfold callFunc
    obtain ⟨c, hc⟩ := Option.isSome_iff_exists.1 hbody
    have hname' : ¬ fn.name = "runtime.NumGoroutine" := by simpa using hname
    simp [hf, hname', hc]
  have hlen : ds.length = tys.length := by rw [trodAll_length hA, readTys_length hread]
  have ho : Objs ((lent []).env W (fun _ => .free) (fun _ => none)) := fun id ver fr c h => by
    exfalso
    cases id with
    | old k => simp [AS.env, AS.ent, lent] at h
    | new i j => simp [AS.env, AS.ent, lent] at h
  rcases hD W (fun _ => .free) (fun _ => none) (DV.vals tys x) [] args.toList r hx1 ho hr1 with ⟨_, hc⟩ | ⟨v, w', hc, _⟩
  · refine hc.mono fun e w' he => ?_
    obtain ⟨v, rfl, g', β', h1, _, h2, _⟩ := he
    rw [hr2] at h1
    refine ⟨v, rfl, post_of_old hl hra hvars htb hub hW' (hfn ds hlen) ⟨h2.os, h2.tape, h2.output, h2.size, fun b hb => (h2.blk b hb).2⟩ ?_⟩
    obtain ⟨cs, k1, k2⟩ := h1
    have k1 : cs = [.bool true] := k1
    subst k1
    have k2 : [Value.bool true] = [v] := k2
    simpa using k2.symm
  · rw [show args.toList.toArray = args from Array.toArray_toList .., hent] at hc
    cases hc
end Go.Ab
