/-
  Soundness of the operations, second part: what only computes; new blocks; loads and stores.
-/
import Derived.Test.YtdmpbapgnkdjpaaAb5
namespace Go.Ab

/-- What an operation does: it yields a value, nothing, or calls. -/
def Runs (P : Program) (o : Oper) (a : Act) (w : World) (K : Act → World → Prop) : Prop :=
  (∃ x w', (execOp a.eval o).run P w = .ok (.value x) w' ∧ K (a.put o.dst x) w') ∨
  (∃ w', (execOp a.eval o).run P w = .ok .skip w' ∧ K (a.put o.dst undef) w') ∨
  (∃ f args w', (execOp a.eval o).run P w = .ok (.enter f args) w' ∧ Calls P f args w' fun e w'' => ∃ x, e = .returned x ∧ K (a.put o.dst x) w'')

theorem Runs.wp {P : Program} {o : Oper} {a : Act} {w : World} {K : Act → World → Prop} {Q : Exit → Act → World → Prop} (h : Runs P o a w K) : o.wp P a w K Q := by
  unfold Oper.wp
  rcases h with ⟨x, w', hr, hk⟩ | ⟨w', hr, hk⟩ | ⟨f, args, w', hr, hk⟩
  · rw [hr, Oper.upon_value]; exact hk
  · rw [hr, Oper.upon_skip]; exact hk
  · rw [hr, Oper.upon_enter]
    refine hk.mono fun e w'' ⟨x, he, hx⟩ => ?_
    subst he
    exact hx

theorem Runs.mono {P : Program} {o : Oper} {a : Act} {w : World} {K K' : Act → World → Prop} (h : Runs P o a w K) (hk : ∀ a w, K a w → K' a w) : Runs P o a w K' := by
  rcases h with ⟨x, w', hr, h⟩ | ⟨w', hr, h⟩ | ⟨f, args, w', hr, h⟩
  · exact .inl ⟨x, w', hr, hk _ _ h⟩
  · exact .inr (.inl ⟨w', hr, hk _ _ h⟩)
  · exact .inr (.inr ⟨f, args, w', hr, h.mono fun e w'' ⟨x, he, hx⟩ => ⟨x, he, hk _ _ hx⟩⟩)

section
variable {P : Program} {C : Ctx} {g : Nat → Lab} {β : Id → Option Pl} {s : AS} {a : Act} {w : World} {o : Oper}

/-- A value, nothing written. -/
theorem Inv.value (h : Inv C g β s a w) {v : AVal} {x : Value} (hv : VS (s.env w g β) v x) (hr : (execOp a.eval o).run P w = .ok (.value x) w) : Runs P o a w (Sts C (s.put o.dst v)) :=
  .inl ⟨x, w, hr, g, β, h.put o.dst hv⟩

theorem exec_value {f : Sem Value} {x : Value} {w' : World} (he : execOp a.eval o = (do pure (.value (← f)))) (hf : f.run P w = .ok x w') : (execOp a.eval o).run P w = .ok (.value x) w' := by
  rw [he, Sem.run_bind, hf]; rfl

theorem exec_skip {f : Sem Unit} {w' : World} (he : execOp a.eval o = (do f; pure .skip)) (hf : f.run P w = .ok () w') : (execOp a.eval o).run P w = .ok .skip w' := by
  rw [he, Sem.run_bind, hf]; rfl

theorem int_of {E : Env} {k : IntKind} {n : Int} {y : Value} (h : VS E (.d (.int k) n) y) : y = .int k n := by
  obtain ⟨cs, hv, ho⟩ := h
  simp only [V, Rep] at hv
  have ho' : cs = [y] := ho
  rw [hv] at ho'
  simpa using ho'.symm
theorem bool_of {E : Env} {b : Bool} {y : Value} (h : VS E (.d .bool b) y) : y = .bool b := by
  obtain ⟨cs, hv, ho⟩ := h
  simp only [V, Rep] at hv
  have ho' : cs = [y] := ho
  rw [hv] at ho'
  simpa using ho'.symm
theorem str_of {E : Env} {b : ByteArray} {y : Value} (h : VS E (.d .str b) y) : y = .string b := by
  obtain ⟨cs, hv, ho⟩ := h
  simp only [V, Rep] at hv
  have ho' : cs = [y] := ho
  rw [hv] at ho'
  simpa using ho'.symm
theorem VS_int {E : Env} (k : IntKind) (n : Int) : VS E (.d (.int k) n) (.int k n) := ⟨[.int k n], by simp [V, Rep], rfl⟩
theorem VS_bool {E : Env} (b : Bool) : VS E (.d .bool b) (.bool b) := ⟨[.bool b], by simp [V, Rep], rfl⟩
theorem VS_str {E : Env} (b : ByteArray) : VS E (.d .str b) (.string b) := ⟨[.string b], by simp [V, Rep], rfl⟩

/-! ### Types -/

theorem info_of {T : TypeId} {d : TypeDesc} (h : P.underlying T = some d) : ∃ i, P.info? T = some i := by
  unfold Program.underlying at h
  split at h
  · rename_i h'; exact ⟨_, h'⟩
  · rename_i i _ h'; exact ⟨_, h'⟩
  · cases h

theorem run_sizeOf {T : TypeId} {i : TypeInfo} (h : P.info? T = some i) (w : World) : (sizeOf T).run P w = .ok i.size w := by
  simp [sizeOf, typeInfo, h]

theorem cellsOf_eq {T : TypeId} {i : TypeInfo} (h : P.info? T = some i) : P.cellsOf T = i.size := by simp [Program.cellsOf, h]

theorem fits_sound {T : TypeId} {v : AVal} (h : fits P T v = true) : v.celled = true ∧ ∃ i, P.info? T = some i ∧ i.size = v.size ∧ ∀ w, (isAgg T).run P w = .ok v.agg w := by
  unfold fits at h
  simp only [Bool.and_eq_true, beq_iff_eq] at h
  obtain ⟨⟨h1, h2⟩, h3⟩ := h
  cases hu : P.underlying T with
  | none => rw [hu] at h3; cases h3
  | some d =>
    obtain ⟨i, hi⟩ := info_of hu
    refine ⟨h1, i, hi, by rw [cellsOf_eq hi] at h2; exact h2, fun w => ?_⟩
    rw [hu] at h3
    unfold isAgg
    rw [Sem.run_bind, run_underlying hu w]
    cases d <;> simp at h3 <;> simp [h3]

/-- Cells that are read as a variable. -/
theorem run_loadVar_of {T : TypeId} {v : AVal} (hf : fits P T v = true) {b off : Nat} {cs : List Value} (hl : cs.length = v.size) (hc : ∀ j x, cs[j]? = some x → w.cell? ⟨b, off + j, none⟩ = some x) :
    ∃ y, (loadVar T ⟨b, off, none⟩).run P w = .ok y w ∧ OfCells v.agg cs y := by
  obtain ⟨_, i, hi, hs, hagg⟩ := fits_sound hf
  unfold loadVar
  rw [Sem.run_bind, hagg w]
  simp only [Result.andThen_ok]
  have hcell : ∀ j x, cs[j]? = some x → w.cell? ((⟨b, off, none⟩ : Addr).add j) = some x := fun j x hj => by
    rw [Addr.add_lit]; exact hc j x hj
  cases ha : v.agg with
  | true =>
    refine ⟨.agg cs.toArray, ?_, rfl⟩
    simp only [if_true, Sem.run_bind, run_sizeOf hi, Result.andThen_ok, hs, ← hl, run_loadCells_list w _ cs hcell]
    rfl
  | false =>
    have h1 : v.size = 1 := AVal.size_one ha
    obtain ⟨y, rfl⟩ : ∃ y, cs = [y] := by
      match cs, hl with
      | [y], _ => exact ⟨y, rfl⟩
      | [], hh => simp [h1] at hh
      | _ :: _ :: _, hh => simp [h1] at hh
    refine ⟨y, ?_, rfl⟩
    have := hc 0 y rfl
    rw [Nat.add_zero] at this
    simp [this]

theorem run_storeVar_of {T : TypeId} {v : AVal} {E : Env} (hf : fits P T v = true) {cs : List Value} {y : Value} (hV : V E v cs) (ho : OfCells v.agg cs y) {b off : Nat} {cur : Array Value} {e : TypeId}
    (hh : w.heap[b]? = some (.cells cur e (0, 0))) (hle : off + cs.length ≤ cur.size) :
    (storeVar T ⟨b, off, none⟩ y).run P w = .ok () (w.setRow b (splice cur.toList off cs).toArray) := by
  obtain ⟨_, i, hi, hs, _⟩ := fits_sound hf
  have hcs : y.cells = cs.toArray := ho.cells hV.one
  have hl := hV.size
  have hst := run_storeCells_at P b off e cs 0 cur w hh (by simpa using hle) hV.one
  simp only [Nat.add_zero] at hst
  unfold storeVar
  simp only [hcs, Sem.run_bind, run_sizeOf hi, Result.andThen_ok, List.size_toArray, hl, hs, ne_eq, not_true_eq_false, if_false]
  simpa [splice] using hst

/-! ### New blocks -/

theorem alloc_lt (w : World) (ob : Obj) {b : Nat} (h : b < w.heap.size) : (w.alloc ob).heap[b]? = w.heap[b]? := by
  show (w.heap.push ob)[b]? = w.heap[b]?
  rw [Array.getElem?_push, if_neg (Nat.ne_of_lt h)]
theorem alloc_at (w : World) (ob : Obj) : (w.alloc ob).heap[w.heap.size]? = some ob := by
  show (w.heap.push ob)[w.heap.size]? = some ob
  simp

/-- A new block that nobody writes. -/
theorem Trans.alloc (w : World) (g : Nat → Lab) (ob : Obj) (l : Lab) : Trans w (w.alloc ob) g (upd1 g w.heap.size l) := by
  refine ⟨rfl, rfl, rfl, by simp, fun b hb => ?_⟩
  rw [upd1_other _ _ _ (by omega), alloc_lt w ob hb]
  cases g b with
  | free => exact ⟨rfl, rfl⟩
  | own o k => cases o with
    | foreign => exact ⟨rfl, rfl⟩
    | id i => exact ⟨.inr ⟨i, k, rfl, Nat.le_refl _⟩, fun off v _ hv => by rw [World.cell?_alloc_lt w ob _ hb]; exact hv⟩

theorem Trans.drew (w : World) (g : Nat → Lab) : Trans w w.drew g g := Trans.refl w g |> fun h => ⟨h.os, h.tape, h.output, h.size, h.blk⟩

/-- The objects, when memory changes elsewhere and no object does. -/
theorem Objs.same {w' : World} {g' : Nat → Lab} (h : Objs (s.env w g β)) (he : EnvLe (s.env w g β) (s.env w' g' β))
    (hb : ∀ i ver fr c pl, s.ent i = some (.obj ver fr c) → β i = some pl → w'.heap[pl.b]? = w.heap[pl.b]? ∧ g' pl.b = g pl.b) : Objs (s.env w' g' β) :=
  fun i ver fr c hi => (h i ver fr c hi).mono he rfl fun pl hp => hb i ver fr c pl hi hp

theorem EnvLe.same {w' : World} {g' : Nat → Lab} (ht : Trans w w' g g') : EnvLe (s.env w g β) (s.env w' g' β) :=
  ⟨Trans.mem ht, fun _ _ h => h, fun _ _ _ h => ⟨h, rfl⟩⟩

theorem Inv.allocFree (h : Inv C g β s a w) (ob : Obj) : Inv C (upd1 g w.heap.size .free) β s a (w.alloc ob) := by
  have ht := Trans.alloc w g ob .free
  have he : EnvLe (s.env w g β) (s.env (w.alloc ob) (upd1 g w.heap.size .free) β) := EnvLe.same ht
  refine h.step rfl ht he (Objs.same h.objs he fun i ver fr c pl hi hp => ?_)
  have hl := ((h.objs i ver fr c hi).label (pl := pl) hp).1
  have hl' : pl.b < w.heap.size := hl
  exact ⟨alloc_lt w ob hl', upd1_other _ _ _ (by omega)⟩

theorem Inv.drew (h : Inv C g β s a w) : Inv C g β s a w.drew := by
  have ht := Trans.drew w g
  have he : EnvLe (s.env w g β) (s.env w.drew g β) := EnvLe.same ht
  exact h.step rfl ht he (Objs.same h.objs he fun _ _ _ _ _ _ _ => ⟨rfl, rfl⟩)

theorem virgin_ent {q : Nat} (h : s.virgin q = true) : (∀ j, s.ent (.new q j) = none) ∧ q < s.news.length := by
  unfold AS.virgin at h
  split at h
  · rename_i hn
    refine ⟨fun j => ?_, (List.getElem?_eq_some_iff.1 hn).1⟩
    simp [AS.ent, List.getD_eq_getElem?_getD, hn]
  · cases h

theorem ent_born_new {q : Nat} (hq : q < s.news.length) (es : List Ent) (j : Nat) : (s.born q es).ent (.new q j) = es[j]? := by
  simp [AS.ent, AS.born, List.getD_eq_getElem?_getD, hq]

theorem ent_born_other {q : Nat} (es : List Ent) {id : Id} (h : ∀ j, id ≠ .new q j) : (s.born q es).ent id = s.ent id := by
  cases id with
  | old k => rfl
  | new i j =>
    have : i ≠ q := fun e => h j (by rw [e])
    simp only [AS.ent, AS.born, List.getD_eq_getElem?_getD]
    rw [List.getElem?_set_ne (Ne.symm this)]

def updI (β : Id → Option Pl) (id : Id) (p : Option Pl) : Id → Option Pl := fun i => if i = id then p else β i
@[simp] theorem updI_self (β : Id → Option Pl) (id : Id) (p : Option Pl) : updI β id p id = p := by simp [updI]
theorem updI_other (β : Id → Option Pl) (id : Id) (p : Option Pl) {i : Id} (h : i ≠ id) : updI β id p i = β i := by simp [updI, h]

/-- An object of its own, made at a site. -/
theorem Inv.bornAt (h : Inv C g β s a w) {q : Nat} (hq : s.virgin q = true) {w' : World} {g' : Nat → Lab} {c : AVal} {p : Option Pl} (ht : Trans w w' g g')
    (hb : ∀ b, b < w.heap.size → w'.heap[b]? = w.heap[b]? ∧ g' b = g b)
    (ho : EnvLe (s.env w g β) ((s.born q [.obj 0 false c]).env w' g' (updI β (.new q 0) p)) → ObjR ((s.born q [.obj 0 false c]).env w' g' (updI β (.new q 0) p)) (.new q 0) false c) :
    Inv C g' (updI β (.new q 0) p) (s.born q [.obj 0 false c]) a w' ∧ EnvLe (s.env w g β) ((s.born q [.obj 0 false c]).env w' g' (updI β (.new q 0) p)) := by
  obtain ⟨hv, hl⟩ := virgin_ent hq
  have hne : ∀ id, s.ent id ≠ none → ∀ j, id ≠ .new q j := fun id hid j e => hid (by rw [e]; exact hv j)
  have he : EnvLe (s.env w g β) ((s.born q [.obj 0 false c]).env w' g' (updI β (.new q 0) p)) := by
    refine ⟨Trans.mem ht, fun id ver hbd => ?_, fun id ver hbd hc => ?_⟩
    · have hid := hne id hbd.1
      have e := ent_born_other (s := s) [.obj 0 false c] hid
      exact ⟨by show (s.born q _).ent id ≠ none; rw [e]; exact hbd.1, fun v fr c' hh => hbd.2 v fr c' (e.symm.trans hh)⟩
    · have hid := hne id hbd.1
      have e := ent_born_other (s := s) [.obj 0 false c] hid
      obtain ⟨fr, c', hc⟩ := hc
      exact ⟨⟨fr, c', e.symm.trans hc⟩, updI_other _ _ _ (hid 0)⟩
  refine ⟨h.step rfl ht he fun id ver fr c' hid => ?_, he⟩
  have hid' : (s.born q [.obj 0 false c]).ent id = some (.obj ver fr c') := hid
  by_cases hi : ∃ j, id = .new q j
  · obtain ⟨j, rfl⟩ := hi
    rw [ent_born_new hl] at hid'
    cases j with
    | zero =>
      simp only [List.getElem?_cons_zero, Option.some.injEq, Ent.obj.injEq] at hid'
      obtain ⟨rfl, rfl, rfl⟩ := hid'
      exact ho he
    | succ j => simp at hid'
  · have hi' : ∀ j, id ≠ .new q j := fun j e => hi ⟨j, e⟩
    rw [ent_born_other _ hi'] at hid'
    refine (h.objs id ver fr c' hid').mono he (updI_other _ _ _ (hi' 0)) fun pl hp => ?_
    exact hb pl.b ((h.objs id ver fr c' hid').label (pl := pl) hp).1

theorem env_cur_born {q : Nat} (hq : s.virgin q = true) (c : AVal) (w' : World) (g' : Nat → Lab) (β' : Id → Option Pl) : ((s.born q [.obj 0 false c]).env w' g' β').bnd (.new q 0) 0 := by
  have e := ent_born_new (s := s) (virgin_ent hq).2 [.obj 0 false c] 0
  refine ⟨by show (s.born q [.obj 0 false c]).ent (.new q 0) ≠ none; rw [e]; simp, fun v fr c' _ => Nat.zero_le _⟩

/-- A new box. -/
theorem Inv.newBox (h : Inv C g β s a w) {q : Nat} (hq : s.virgin q = true) {v : AVal} {cs : List Value} (hv : V (s.env w g β) v cs) (e : TypeId) :
    ∃ g' β', Inv C g' β' (s.born q [.obj 0 false v]) a (w.alloc (.cells cs.toArray e)) ∧
      VS ((s.born q [.obj 0 false v]).env (w.alloc (.cells cs.toArray e)) g' β') (.ptr (.new q 0) 0 [] 0) (.pointer (some ⟨w.heap.size, 0, none⟩)) := by
  have ht := Trans.alloc w g (.cells cs.toArray e) (.own (.id (.new q 0)) 0)
  obtain ⟨h1, h2⟩ := h.bornAt hq (c := v) (p := some ⟨w.heap.size, 0⟩) ht (fun b hb => ⟨alloc_lt w _ hb, upd1_other _ _ _ (by omega)⟩) (fun he =>
    BoxR.obj ⟨⟨w.heap.size, 0⟩, cs.toArray, e, updI_self _ _ _, alloc_at w _, upd1_self _ _ _, by simpa using hv.mono he⟩)
  refine ⟨_, _, h1, ?_⟩
  refine ⟨[.pointer (some ⟨w.heap.size, 0, none⟩)], ?_, rfl⟩
  simp only [V]
  exact ⟨_, rfl, env_cur_born hq _ _ _ _, fun _ => ⟨_, updI_self _ _ _, rfl⟩⟩

/-- A new block that is only read. -/
theorem Inv.newRead (h : Inv C g β s a w) {t : Ty} {x : t.den} {cs : List Value} (hv : Rep (s.env w g β) t cs x) (e : TypeId) :
    ∃ g', Inv C g' β s a (w.alloc (.cells cs.toArray e)) ∧ EnvLe (s.env w g β) (s.env (w.alloc (.cells cs.toArray e)) g' β) ∧
      VS (s.env (w.alloc (.cells cs.toArray e)) g' β) (.rptr t x) (.pointer (some ⟨w.heap.size, 0, none⟩)) := by
  have ht := Trans.alloc w g (.cells cs.toArray e) .free
  have he : EnvLe (s.env w g β) (s.env (w.alloc (.cells cs.toArray e)) (upd1 g w.heap.size .free) β) := EnvLe.same ht
  refine ⟨_, h.allocFree _, he, [.pointer (some ⟨w.heap.size, 0, none⟩)], ?_, rfl⟩
  simp only [V]
  refine ⟨w.heap.size, 0, cs, rfl, fun i v hi => ⟨_, _, rfl, ?_, ?_⟩, hv.mono he.mem⟩
  · show (w.alloc (.cells cs.toArray e)).cell? ⟨w.heap.size, 0 + i, none⟩ = some v
    rw [World.cell?_alloc_new, Nat.zero_add]; simpa using hi
  · show okAt (upd1 g w.heap.size .free) w.heap.size (0 + i)
    unfold okAt; rw [upd1_self]; trivial

theorem run_newVar (T : TypeId) (y : Value) (w : World) : (newVar T y).run P w = .ok ⟨w.heap.size, 0, none⟩ (w.alloc (.cells y.cells T)) := by
  simp [newVar, newRow]

theorem alloc_runs (h : Inv C g β s a w) {T : TypeId} (ho : o.op = .alloc T) {z : AVal} {q : Nat} (hq : s.virgin q = true) (hz : zchk P T z = true) :
    Runs P o a w (Sts C ((s.born q [.obj 0 false z]).put o.dst (.ptr (.new q 0) 0 [] 0))) := by
  obtain ⟨i, zv, hi, hzv, hV, hO⟩ := zchk_sound hz (s.env w g β)
  obtain ⟨g', β', h1, h2⟩ := h.newBox hq hV T
  refine .inl ⟨.pointer (some ⟨w.heap.size, 0, none⟩), w.alloc (.cells zv.cells T), ?_, g', β', ?_⟩
  · refine exec_value (f := Instr.alloc T true (.tuple #[])) (by simp only [execOp, ho]) ?_
    simp [Instr.alloc, zeroValue, typeInfo, hi, hzv, run_newVar]
  · have := h1.put o.dst h2
    simpa using this

theorem box_runs (h : Inv C g β s a w) {T : TypeId} {x : Operand} {obj : Bool} (ho : o.op = .box T x) {s' : AS} (he : (boxA P s obj o.dst T (s.ev x)).eval = some s') : Runs P o a w (Sts C s') := by
  unfold boxA at he
  cases hd : o.dst with
  | none => rw [hd] at he; simp only [eval_fail] at he
  | some q =>
    rw [hd] at he
    have hev := h.ev x
    have hrun : ∀ cs : List Value, (a.eval x).cells = cs.toArray → (execOp a.eval o).run P w = .ok (.value (.pointer (some ⟨w.heap.size, 0, none⟩))) (w.alloc (.cells cs.toArray T)) := by
      intro cs hcs
      refine exec_value (f := Instr.box T (a.eval x)) (by simp only [execOp, ho]) ?_
      simp [Instr.box, run_newVar, hcs]
    cases obj with
    | true =>
      obtain ⟨hg, hok⟩ := eval_guard.1 he
      obtain rfl := eval_ok.1 hok
      simp only [Bool.and_eq_true] at hg
      obtain ⟨hq, hf⟩ := hg
      obtain ⟨hc, _⟩ := fits_sound hf
      obtain ⟨cs, hV, hO⟩ := hev.celled hc
      obtain ⟨g', β', h1, h2⟩ := h.newBox hq hV T
      refine .inl ⟨_, _, hrun cs (hO.cells hV.one), g', β', ?_⟩
      rw [hd]
      exact h1.put (some q) h2
    | false =>
      simp only at he
      cases ht : tyOf P depth T with
      | none => rw [ht] at he; simp only [eval_fail] at he
      | some t =>
        rw [ht] at he
        obtain ⟨_, he⟩ := eval_guard.1 he
        obtain ⟨y, h1, h2⟩ := eval_bind.1 he
        obtain rfl := eval_ok.1 h2
        obtain ⟨g1, i1, e1, t1, cs, hR, hO⟩ := toTy_sound h hev h1
        obtain ⟨g2, i2, e2, hv⟩ := i1.newRead hR T
        refine .inl ⟨_, _, hrun cs (hO.cells hR.one), g2, β, ?_⟩
        rw [hd]
        exact i2.put (some q) hv

theorem rptr_of {E : Env} {t : Ty} {x : t.den} {y : Value} (h : VS E (.rptr t x) y) : ∃ b off vs, y = .pointer (some ⟨b, off, none⟩) ∧ RowAt E (some ⟨b, off, none⟩) vs ∧ Rep E t vs x := by
  obtain ⟨cs, hv, ho⟩ := h
  simp only [V] at hv
  obtain ⟨b, off, vs, e, hr, hx⟩ := hv
  have ho' : cs = [y] := ho
  rw [e] at ho'
  exact ⟨b, off, vs, by simpa using ho'.symm, hr, hx⟩

theorem ptr_of {E : Env} {id : Id} {ver n : Nat} {p : List Stp} {y : Value} (h : VS E (.ptr id ver p n) y) :
    ∃ a, y = .pointer (some a) ∧ E.bnd id ver ∧ (E.cur id ver → ∃ pl, E.β id = some pl ∧ a = ⟨pl.b, n, none⟩) := by
  obtain ⟨cs, hv, ho⟩ := h
  simp only [V] at hv
  obtain ⟨a, e, hb, hc⟩ := hv
  have ho' : cs = [y] := ho
  rw [e] at ho'
  exact ⟨a, by simpa using ho'.symm, hb, hc⟩

theorem sref_of {E : Env} {id : Id} {ver c i len : Nat} {p : List Stp} {y : Value} (h : VS E (.sref id ver p c i len) y) :
    ∃ a cap, y = .slice a len cap ∧ len ≤ cap ∧ (0 < len → a.isSome = true) ∧ E.bnd id ver ∧
      (E.cur id ver → match E.β id with
        | some pl => (0 < len ∨ i = 0 → a = some ⟨pl.b, c, none⟩) ∧ (p = [] → i = 0 → cap = pl.cap)
        | none => a = none ∧ len = 0 ∧ cap = 0) := by
  obtain ⟨cs, hv, ho⟩ := h
  simp only [V] at hv
  obtain ⟨a, cap, e, rest⟩ := hv
  have ho' : cs = [y] := ho
  rw [e] at ho'
  exact ⟨a, cap, by simpa using ho'.symm, rest⟩

theorem slice_of {E : Env} {t : Ty} {l : List t.den} {y : Value} (h : VS E (.d (.slice t) l) y) :
    ∃ a cap vs, y = .slice a l.length cap ∧ l.length ≤ cap ∧ (0 < l.length → a.isSome = true) ∧ RowAt E a vs ∧ Chunks (Rep E t) vs l := by
  obtain ⟨cs, hv, ho⟩ := h
  simp only [V, Rep] at hv
  obtain ⟨a, cap, vs, e, rest⟩ := hv
  have ho' : cs = [y] := ho
  rw [e] at ho'
  exact ⟨a, cap, vs, by simpa using ho'.symm, rest⟩

theorem nils_of {E : Env} {y : Value} (h : VS E .nils y) : y = .slice none 0 0 := by
  obtain ⟨cs, hv, ho⟩ := h
  simp only [V] at hv
  have ho' : cs = [y] := ho
  rw [hv] at ho'
  simpa using ho'.symm

/-- The cells of an object's content. -/
theorem obj_cells {E : Env} {id : Id} {fr : Bool} {c : AVal} (h : ObjR E id fr c) {p : List Stp} {n : Nat} {v : AVal} (hl : (loc c p).eval = some (n, v)) (hf : v.celled = true) :
    ∃ pl cur e, E.β id = some pl ∧ E.w.heap[pl.b]? = some (.cells cur e (0, 0)) ∧ V E v ((cur.toList.drop n).take v.size) ∧ n + v.size ≤ cur.size := by
  by_cases hn : c.isVec = false
  · obtain ⟨pl, cur, e, hp, hh, hg, hV⟩ := h.box hn
    rcases loc_sound p c cur.toList n v (VO.of hV) hl with ⟨rfl, rfl⟩ | ⟨h1, h2⟩
    · refine ⟨pl, cur, e, hp, hh, ?_, ?_⟩
      · have := hV.size
        rw [List.drop_zero, List.take_of_length_le (by omega)]
        exact hV
      · have := hV.size
        simp at this ⊢; omega
    · exact ⟨pl, cur, e, hp, hh, h1, by simpa using h2⟩
  · cases c <;> first | (exact absurd rfl hn) | skip
    rename_i e t l
    obtain ⟨hz, h⟩ := h
    cases hp : E.β id with
    | none =>
      rw [hp] at h
      have : l = [] := h
      subst this
      obtain ⟨_, rfl⟩ := loc_none hl
      simp [AVal.celled] at hf
    | some pl =>
      rw [hp] at h
      obtain ⟨cur, k, q1, q2, q3, q4, q5, q6, q7, q8⟩ := h
      have hlen := Chunks.length (fun c x hx => Rep.size hx) q8
      have hsz : l.length * t.size ≤ cur.size := by rw [q2]; exact Nat.mul_le_mul_right _ q3
      rcases loc_sound (E := E) p (.vec e t l) _ n v q8 hl with ⟨rfl, rfl⟩ | ⟨h1, h2⟩
      · simp [AVal.celled] at hf
      · rw [hlen] at h2
        rw [List.drop_take, List.take_take, Nat.min_eq_left (by omega)] at h1
        exact ⟨pl, cur, e, rfl, q1, h1, by omega⟩

theorem load_sound (h : Inv C g β s a w) {T : TypeId} {x : AVal} {y : Value} (hx : VS (s.env w g β) x y) {v : AVal} (he : (loadA P s T x).eval = some v) :
    ∃ ad z, y = .pointer (some ad) ∧ (loadVar T ad).run P w = .ok z w ∧ VS (s.env w g β) v z := by
  unfold loadA at he
  split at he
  · rename_i id ver p n
    cases hob : s.obj id with
    | none => rw [hob] at he; simp only [eval_fail] at he
    | some r =>
      obtain ⟨v0, fr, c⟩ := r
      rw [hob] at he
      obtain ⟨h1, h2⟩ := eval_guard.1 he
      obtain ⟨⟨n', v'⟩, h3, h4⟩ := eval_bind.1 h2
      obtain ⟨h5, h6⟩ := eval_guard.1 h4
      obtain ⟨h7, h8⟩ := eval_chk.1 h6
      obtain rfl := eval_ok.1 h8
      simp only [decide_eq_true_eq] at h7
      have hv0 : v0 = ver := by simpa using h1
      subst hv0 h7
      have hent := obj_some hob
      obtain ⟨ad, rfl, hb, hc⟩ := ptr_of hx
      obtain ⟨pl, hp, rfl⟩ := hc ⟨fr, c, hent⟩
      obtain ⟨hcel, _⟩ := fits_sound h5
      obtain ⟨pl', cur, e, hp', hh, hV, hle⟩ := obj_cells (h.objs id v0 fr c hent) h3 hcel
      rw [hp] at hp'
      obtain rfl : pl = pl' := by simpa using hp'
      obtain ⟨z, hz1, hz2⟩ := run_loadVar_of (P := P) (w := w) h5 (b := pl.b) (off := n') hV.size (fun j x hj => by
        rw [cell_of_row w pl.b (n' + j) cur e (0, 0) hh]
        rw [List.getElem?_take] at hj
        split at hj
        · rw [List.getElem?_drop] at hj; simpa using hj
        · cases hj)
      exact ⟨_, z, rfl, hz1, VS.of hV hz2⟩
  · rename_i t x'
    obtain ⟨h1, h2⟩ := eval_guard.1 he
    obtain rfl := eval_ok.1 h2
    obtain ⟨b, off, vs, rfl, hr, hR⟩ := rptr_of hx
    obtain ⟨z, hz1, hz2⟩ := run_loadVar_of (P := P) (w := w) h1 (b := b) (off := off) hR.size (fun j x hj => by
      obtain ⟨b', off', e, hh⟩ := hr j x hj
      simp only [Option.some.injEq, Addr.mk.injEq, and_true] at e
      obtain ⟨rfl, rfl⟩ := e
      exact hh.1)
    exact ⟨_, z, rfl, hz1, VS.of (by simpa only [V] using hR) hz2⟩
  · simp only [eval_fail] at he

theorem load_runs (h : Inv C g β s a w) {T : TypeId} {x : Operand} (ho : o.op = .load T x) {v : AVal} (he : (loadA P s T (s.ev x)).eval = some v) : Runs P o a w (Sts C (s.put o.dst v)) := by
  obtain ⟨ad, z, hy, hr, hv⟩ := load_sound h (h.ev x) he
  refine h.value hv (exec_value (f := Instr.loadAt T (a.eval x)) (by simp only [execOp, ho]) ?_)
  simp [Instr.loadAt, Instr.sureAddr, hy, hr]

/-- A block of an object is written. -/
theorem Trans.setRow (w : World) {b : Nat} {i : Id} (hg : g b = .own (.id i) 0) (cur : Array Value) : Trans w (w.setRow b cur) g g := by
  refine ⟨by simp, by simp, by simp, by simp, fun b' hb => ?_⟩
  by_cases he : b' = b
  · subst he
    rw [hg]
    exact ⟨.inr ⟨i, 0, rfl, Nat.le_refl _⟩, fun _ _ hh => by omega⟩
  · rw [setRow_other w b b' cur he]
    cases hgb : g b' with
    | free => exact ⟨rfl, rfl⟩
    | own o' k => cases o' with
      | foreign => exact ⟨rfl, rfl⟩
      | id i' => exact ⟨.inr ⟨i', k, rfl, Nat.le_refl _⟩, fun off v _ hv => by rw [cell_setRow_other w b cur _ he]; exact hv⟩

/-- Another object's block is another block. -/
theorem Inv.apart (h : Inv C g β s a w) {id : Id} {k : Nat} {b : Nat} (hg : g b = .own (.id id) k) {i : Id} {ver : Nat} {fr : Bool} {c : AVal} {pl : Pl} (hi : i ≠ id) (hs : s.ent i = some (.obj ver fr c)) (hp : β i = some pl) : pl.b ≠ b := by
  intro hb
  have hl : (∃ k, g pl.b = .own (.id i) k) ∨ (fr = true ∧ g pl.b = .free) := ((h.objs i ver fr c hs).label (pl := pl) hp).2
  rw [hb, hg] at hl
  rcases hl with ⟨k', hk⟩ | ⟨_, hk⟩
  · simp only [Lab.own.injEq, Own.id.injEq] at hk
    exact hi hk.1.symm
  · cases hk

theorem store_sound (h : Inv C g β s a w) {T : TypeId} {x v : AVal} {y z : Value} (hx : VS (s.env w g β) x y) (hz : VS (s.env w g β) v z) {s' : AS} (he : (storeA P s T x v).eval = some s') :
    ∃ ad w', y = .pointer (some ad) ∧ (storeVar T ad z).run P w = .ok () w' ∧ ∃ g' β', Inv C g' β' s' a w' := by
  unfold storeA at he
  split at he
  · rename_i id ver p n
    cases hob : s.obj id with
    | none => rw [hob] at he; simp only [eval_fail] at he
    | some r =>
      obtain ⟨v0, fr, c⟩ := r
      rw [hob] at he
      obtain ⟨h1, h2⟩ := eval_guard.1 he
      obtain ⟨⟨n', o'⟩, h3, h4⟩ := eval_bind.1 h2
      obtain ⟨h5, h6⟩ := eval_guard.1 h4
      obtain ⟨h7, h8⟩ := eval_chk.1 h6
      obtain ⟨c', h9, h10⟩ := eval_bind.1 h8
      obtain rfl := eval_ok.1 h10
      simp only [decide_eq_true_eq] at h7
      simp only [Bool.and_eq_true, beq_iff_eq, Bool.not_eq_true'] at h1
      obtain ⟨⟨hv0, hfr⟩, hfits⟩ := h1
      subst hv0 h7 hfr
      have hent := obj_some hob
      obtain ⟨ad, rfl, hb, hc⟩ := ptr_of hx
      obtain ⟨pl, hp, rfl⟩ := hc ⟨false, c, hent⟩
      have hp : β id = some pl := hp
      obtain ⟨hcel, _⟩ := fits_sound hfits
      obtain ⟨cs, hV, hO⟩ := hz.celled hcel
      have hOb := h.objs id v0 false c hent
      obtain ⟨hcel', _⟩ := fits_sound h5
      have hvec : c.isVec = false ∨ c.isVec = true := by cases c.isVec <;> simp
      rcases hvec with hn | hn
      · obtain ⟨pl', cur, e, hp', hh, hg, hVc⟩ := hOb.box hn
        have hp' : β id = some pl' := hp'
        rw [hp] at hp'
        obtain rfl : pl = pl' := by simpa using hp'
        have hg : g pl.b = .own (.id id) 0 := hg
        have hh : w.heap[pl.b]? = some (.cells cur e (0, 0)) := hh
        obtain ⟨u1, u2, u3⟩ := upd_sound p c cur.toList n' o' v c' cs (VO.of hVc) h3 hV h9
        have hrun := run_storeVar_of (P := P) (w := w) hfits hV hO (b := pl.b) (off := n') hh (by simpa using u1)
        have ht := Trans.setRow w hg (splice cur.toList n' cs).toArray
        have hle : EnvLe (s.env w g β) ((s.setEnt id (.obj v0 false c')).env (w.setRow pl.b (splice cur.toList n' cs).toArray) g β) := EnvLe.setEnt hent (Nat.le_refl _) ht (fun _ _ => rfl) (fun _ => rfl)
        refine ⟨_, _, rfl, hrun, g, β, h.step (slots_setEnt _ _ _) ht hle (Objs.setEnt h.objs (by rw [hent]; simp) hle (fun _ _ => rfl) (fun i ver fr c pl2 hi hs2 hp2 => ⟨setRow_other w pl.b pl2.b _ (h.apart hg hi hs2 hp2), rfl⟩) ?_)⟩
        exact BoxR.obj ⟨pl, _, e, hp, setRow_heap w pl.b cur _ e (0, 0) hh, hg, by simpa using V.mono hle (u2.to (u3.notVec hn))⟩
      · cases c <;> first | (simp [AVal.isVec] at hn; done) | skip
        rename_i e t l
        obtain ⟨hzz, hOb⟩ := hOb
        have hOb : (match β id with
          | none => l = []
          | some pl => ∃ cur k, w.heap[pl.b]? = some (.cells cur e (0, 0)) ∧ cur.size = pl.cap * t.size ∧ l.length ≤ pl.cap ∧ pl.cap ≤ maxLen ∧ g pl.b = .own (.id id) k ∧
              k ≤ l.length * t.size ∧ (false = false → k = 0) ∧ Chunks (Rep (s.env w g β) t) (cur.toList.take (l.length * t.size)) l) := hOb
        rw [hp] at hOb
        obtain ⟨cur, k, q1, q2, q3, q4, q5, q6, q7, q8⟩ := hOb
        have hk := q7 rfl
        subst hk
        have hlen := Chunks.length (fun c x hx => Rep.size hx) q8
        have hsz : l.length * t.size ≤ cur.size := by rw [q2]; exact Nat.mul_le_mul_right _ q3
        obtain ⟨u1, u2, u3⟩ := upd_sound (E := s.env w g β) p (.vec e t l) _ n' o' v c' cs q8 h3 hV h9
        rw [hlen] at u1
        have hrun := run_storeVar_of (P := P) (w := w) hfits hV hO (b := pl.b) (off := n') q1 (by omega)
        cases c' <;> first | (exact u3.elim) | skip
        rename_i e' t' l'
        obtain ⟨rfl, rfl, hl'⟩ := u3
        have ht := Trans.setRow w q5 (splice cur.toList n' cs).toArray
        have hle : EnvLe (s.env w g β) ((s.setEnt id (.obj v0 false (.vec e' t' l'))).env (w.setRow pl.b (splice cur.toList n' cs).toArray) g β) := EnvLe.setEnt hent (Nat.le_refl _) ht (fun _ _ => rfl) (fun _ => rfl)
        refine ⟨_, _, rfl, hrun, g, β, h.step (slots_setEnt _ _ _) ht hle (Objs.setEnt h.objs (by rw [hent]; simp) hle (fun _ _ => rfl) (fun i ver fr c pl2 hi hs2 hp2 => ⟨setRow_other w pl.b pl2.b _ (h.apart q5 hi hs2 hp2), rfl⟩) ?_)⟩
        refine ⟨hzz, ?_⟩
        show (match β id with
          | none => l' = []
          | some pl => _)
        rw [hp]
        have hsp : (splice cur.toList n' cs).length = cur.toList.length := splice_length (by simp; omega)
        refine ⟨_, 0, setRow_heap w pl.b cur _ e' (0, 0) q1, by rw [List.size_toArray, hsp]; simpa using q2, by omega, q4, q5, by omega, fun _ => rfl, ?_⟩
        have e2 : (splice cur.toList n' cs).take (l'.length * t'.size) = splice (cur.toList.take (l.length * t'.size)) n' cs := by
          rw [hl']
          conv => lhs; rw [← List.take_append_drop (l.length * t'.size) cur.toList]
          rw [splice_left (by rw [hlen]; exact u1), List.take_append_of_le_length (by rw [splice_length (by rw [hlen]; exact u1), hlen]; exact Nat.le_refl _)]
          exact List.take_of_length_le (by rw [splice_length (by rw [hlen]; exact u1), hlen]; exact Nat.le_refl _)
        rw [show (splice cur.toList n' cs).toArray.toList = splice cur.toList n' cs from rfl, e2]
        exact Chunks.mono (fun _ _ hx => hx.mono hle.mem) u2
  · simp only [eval_fail] at he

theorem store_runs (h : Inv C g β s a w) {T : TypeId} {x v : Operand} (ho : o.op = .store T x v) {s' : AS} (he : (storeA P s T (s.ev x) (s.ev v)).eval = some s') : Runs P o a w (Sts C (s'.put o.dst .undef)) := by
  obtain ⟨ad, w', hy, hr, g', β', hi⟩ := store_sound h (h.ev x) (h.ev v) he
  refine .inr (.inl ⟨w', exec_skip (f := Instr.storeAt T (a.eval x) (a.eval v)) (by simp only [execOp, ho]) ?_, g', β', hi.put o.dst VS.undef⟩)
  simp [Instr.storeAt, Instr.sureAddr, hy, hr]

end
end Go.Ab
