/-
  The abstract machine, a part.
-/
import Derived.Test.YtglpcfdjdabdnaaAb4

/-
  Soundness of the operations, second part: what only computes; new blocks; loads and stores.
-/
namespace Go.Ab

/-- What an operation does: it yields a value, nothing, or calls. -/
def Runs (P : Program) (o : Oper) (a : Act) (w : World) (K : Act → World → Prop) : Prop :=
  (∃ x w', (execOp a.eval o).run P w = .ok (.value x) w' ∧ K (a.put o.dst x) w') ∨
  (∃ w', (execOp a.eval o).run P w = .ok .skip w' ∧ K (a.put o.dst undef) w') ∨
  (∃ f args w', (execOp a.eval o).run P w = .ok (.enter f args) w' ∧ Calls P f args w' fun e w'' => ∃ x, e = .returned x ∧ K (a.put o.dst x) w'')

theorem Runs.wp {P : Program} {o : Oper} {a : Act} {w : World} {K : Act → World → Prop} {Q : Exit → Act → World → Prop} (h : Runs P o a w K) : o.wp P a w K Q := by
  unfold Oper.wp
  rcases h with ⟨x, w', hr, hk⟩ | ⟨w', hr, hk⟩ | ⟨f, args, w', hr, hk⟩
  · rw [hr, Oper.upon_value]; exact hk
  · rw [hr, Oper.upon_skip]; exact hk
  · rw [hr, Oper.upon_enter]
    refine hk.mono fun e w'' ⟨x, he, hx⟩ => ?_
    subst he
    exact hx

theorem Runs.mono {P : Program} {o : Oper} {a : Act} {w : World} {K K' : Act → World → Prop} (h : Runs P o a w K) (hk : ∀ a w, K a w → K' a w) : Runs P o a w K' := by
  rcases h with ⟨x, w', hr, h⟩ | ⟨w', hr, h⟩ | ⟨f, args, w', hr, h⟩
  · exact .inl ⟨x, w', hr, hk _ _ h⟩
  · exact .inr (.inl ⟨w', hr, hk _ _ h⟩)
  · exact .inr (.inr ⟨f, args, w', hr, h.mono fun e w'' ⟨x, he, hx⟩ => ⟨x, he, hk _ _ hx⟩⟩)

section
variable {P : Program} {C : Ctx} {g : Nat → Lab} {β : Id → Option Pl} {s : AS} {a : Act} {w : World} {o : Oper}

/-- A value, nothing written. -/
theorem Inv.value (h : Inv C g β s a w) {v : AVal} {x : Value} (hv : VS (s.env w g β) v x) (hr : (execOp a.eval o).run P w = .ok (.value x) w) : Runs P o a w (Sts C (s.put o.dst v)) :=
  .inl ⟨x, w, hr, g, β, h.put o.dst hv⟩

theorem exec_value {f : Sem Value} {x : Value} {w' : World} (he : execOp a.eval o = (do pure (.value (← f)))) (hf : f.run P w = .ok x w') : (execOp a.eval o).run P w = .ok (.value x) w' := by
  rw [he, Sem.run_bind, hf]; rfl

theorem exec_skip {f : Sem Unit} {w' : World} (he : execOp a.eval o = (do f; pure .skip)) (hf : f.run P w = .ok () w') : (execOp a.eval o).run P w = .ok .skip w' := by
  rw [he, Sem.run_bind, hf]; rfl

theorem int_of {E : Env} {k : IntKind} {n : Int} {y : Value} (h : VS E (.d (.int k) n) y) : y = .int k n := by
  obtain ⟨cs, hv, ho⟩ := h
  simp only [V, Rep] at hv
  have ho' : cs = [y] := ho
  rw [hv] at ho'
  simpa using ho'.symm
theorem bool_of {E : Env} {b : Bool} {y : Value} (h : VS E (.d .bool b) y) : y = .bool b := by
  obtain ⟨cs, hv, ho⟩ := h
  simp only [V, Rep] at hv
  have ho' : cs = [y] := ho
  rw [hv] at ho'
  simpa using ho'.symm
theorem str_of {E : Env} {b : ByteArray} {y : Value} (h : VS E (.d .str b) y) : y = .string b := by
  obtain ⟨cs, hv, ho⟩ := h
  simp only [V, Rep] at hv
  have ho' : cs = [y] := ho
  rw [hv] at ho'
  simpa using ho'.symm
theorem VS_int {E : Env} (k : IntKind) (n : Int) : VS E (.d (.int k) n) (.int k n) := ⟨[.int k n], by simp [V, Rep], rfl⟩
theorem VS_bool {E : Env} (b : Bool) : VS E (.d .bool b) (.bool b) := ⟨[.bool b], by simp [V, Rep], rfl⟩
theorem VS_str {E : Env} (b : ByteArray) : VS E (.d .str b) (.string b) := ⟨[.string b], by simp [V, Rep], rfl⟩

/-! ### Types -/

theorem info_of {T : TypeId} {d : TypeDesc} (h : P.underlying T = some d) : ∃ i, P.info? T = some i := by
  unfold Program.underlying at h
  split at h
  · rename_i h'; exact ⟨_, h'⟩
  · rename_i i _ h'; exact ⟨_, h'⟩
  · cases h

theorem run_sizeOf {T : TypeId} {i : TypeInfo} (h : P.info? T = some i) (w : World) : (sizeOf T).run P w = .ok i.size w := by
  simp [sizeOf, typeInfo, h]

theorem cellsOf_eq {T : TypeId} {i : TypeInfo} (h : P.info? T = some i) : P.cellsOf T = i.size := by simp [Program.cellsOf, h]

theorem fits_sound {T : TypeId} {v : AVal} (h : fits P T v = true) : v.celled = true ∧ ∃ i, P.info? T = some i ∧ i.size = v.size ∧ ∀ w, (isAgg T).run P w = .ok v.agg w := by
  unfold fits at h
  simp only [Bool.and_eq_true, beq_iff_eq] at h
  obtain ⟨⟨h1, h2⟩, h3⟩ := h
  cases hu : P.underlying T with
  | none => rw [hu] at h3; cases h3
  | some d =>
    obtain ⟨i, hi⟩ := info_of hu
    refine ⟨h1, i, hi, by rw [cellsOf_eq hi] at h2; exact h2, fun w => ?_⟩
    rw [hu] at h3
    unfold isAgg
    rw [Sem.run_bind, run_underlying hu w]
    cases d <;> simp at h3 <;> simp [h3]

/-- Cells that are read as a variable. -/
theorem run_loadVar_of {T : TypeId} {v : AVal} (hf : fits P T v = true) {b off : Nat} {cs : List Value} (hl : cs.length = v.size) (hc : ∀ j x, cs[j]? = some x → w.cell? ⟨b, off + j, none⟩ = some x) :
    ∃ y, (loadVar T ⟨b, off, none⟩).run P w = .ok y w ∧ OfCells v.agg cs y := by
  obtain ⟨_, i, hi, hs, hagg⟩ := fits_sound hf
  unfold loadVar
  rw [Sem.run_bind, hagg w]
  simp only [Result.andThen_ok]
  have hcell : ∀ j x, cs[j]? = some x → w.cell? ((⟨b, off, none⟩ : Addr).add j) = some x := fun j x hj => by
    rw [Addr.add_lit]; exact hc j x hj
  cases ha : v.agg with
  | true =>
    refine ⟨.agg cs.toArray, ?_, rfl⟩
    simp only [if_true, Sem.run_bind, run_sizeOf hi, Result.andThen_ok, hs, ← hl, run_loadCells_list w _ cs hcell]
    rfl
  | false =>
    have h1 : v.size = 1 := AVal.size_one ha
    obtain ⟨y, rfl⟩ : ∃ y, cs = [y] := by
      match cs, hl with
      | [y], _ => exact ⟨y, rfl⟩
      | [], hh => simp [h1] at hh
      | _ :: _ :: _, hh => simp [h1] at hh
    refine ⟨y, ?_, rfl⟩
    have := hc 0 y rfl
    rw [Nat.add_zero] at this
    simp [this]

theorem run_storeVar_of {T : TypeId} {v : AVal} {E : Env} (hf : fits P T v = true) {cs : List Value} {y : Value} (hV : V E v cs) (ho : OfCells v.agg cs y) {b off : Nat} {cur : Array Value} {e : TypeId}
    (hh : w.heap[b]? = some (.cells cur e (0, 0))) (hle : off + cs.length ≤ cur.size) :
    (storeVar T ⟨b, off, none⟩ y).run P w = .ok () (w.setRow b (splice cur.toList off cs).toArray) := by
  obtain ⟨_, i, hi, hs, _⟩ := fits_sound hf
  have hcs : y.cells = cs.toArray := ho.cells hV.one
  have hl := hV.size
  have hst := run_storeCells_at P b off e cs 0 cur w hh (by simpa using hle) hV.one
  simp only [Nat.add_zero] at hst
  unfold storeVar
  simp only [hcs, Sem.run_bind, run_sizeOf hi, Result.andThen_ok, List.size_toArray, hl, hs, ne_eq, not_true_eq_false, if_false]
  simpa [splice] using hst

/-! ### New blocks -/

theorem alloc_lt (w : World) (ob : Obj) {b : Nat} (h : b < w.heap.size) : (w.alloc ob).heap[b]? = w.heap[b]? := by
  show (w.heap.push ob)[b]? = w.heap[b]?
  rw [Array.getElem?_push, if_neg (Nat.ne_of_lt h)]
theorem alloc_at (w : World) (ob : Obj) : (w.alloc ob).heap[w.heap.size]? = some ob := by
  show (w.heap.push ob)[w.heap.size]? = some ob
  simp

/-- A new block that nobody writes. -/
theorem Trans.alloc (w : World) (g : Nat → Lab) (ob : Obj) (l : Lab) : Trans w (w.alloc ob) g (upd1 g w.heap.size l) := by
  refine ⟨rfl, rfl, rfl, by simp, fun b hb => ?_⟩
  rw [upd1_other _ _ _ (by omega), alloc_lt w ob hb]
  cases g b with
  | free => exact ⟨rfl, rfl⟩
  | own o k => cases o with
    | foreign => exact ⟨rfl, rfl⟩
    | id i => exact ⟨.inr ⟨i, k, rfl, Nat.le_refl _⟩, fun off v _ hv => by rw [World.cell?_alloc_lt w ob _ hb]; exact hv⟩

theorem Trans.drew (w : World) (g : Nat → Lab) : Trans w w.drew g g := Trans.refl w g |> fun h => ⟨h.os, h.tape, h.output, h.size, h.blk⟩

/-- The objects, when memory changes elsewhere and no object does. -/
theorem Objs.same {w' : World} {g' : Nat → Lab} (h : Objs (s.env w g β)) (he : EnvLe (s.env w g β) (s.env w' g' β))
    (hb : ∀ i ver fr c pl, s.ent i = some (.obj ver fr c) → β i = some pl → w'.heap[pl.b]? = w.heap[pl.b]? ∧ g' pl.b = g pl.b) : Objs (s.env w' g' β) :=
  fun i ver fr c hi => (h i ver fr c hi).mono he rfl fun pl hp => hb i ver fr c pl hi hp

theorem EnvLe.same {w' : World} {g' : Nat → Lab} (ht : Trans w w' g g') : EnvLe (s.env w g β) (s.env w' g' β) :=
  ⟨Trans.mem ht, fun _ _ h => h, fun _ _ _ h => ⟨h, rfl⟩⟩

theorem Inv.allocFree (h : Inv C g β s a w) (ob : Obj) : Inv C (upd1 g w.heap.size .free) β s a (w.alloc ob) := by
  have ht := Trans.alloc w g ob .free
  have he : EnvLe (s.env w g β) (s.env (w.alloc ob) (upd1 g w.heap.size .free) β) := EnvLe.same ht
  refine h.step rfl ht he (Objs.same h.objs he fun i ver fr c pl hi hp => ?_)
  have hl := ((h.objs i ver fr c hi).label (pl := pl) hp).1
  have hl' : pl.b < w.heap.size := hl
  exact ⟨alloc_lt w ob hl', upd1_other _ _ _ (by omega)⟩

theorem Inv.drew (h : Inv C g β s a w) : Inv C g β s a w.drew := by
  have ht := Trans.drew w g
  have he : EnvLe (s.env w g β) (s.env w.drew g β) := EnvLe.same ht
  exact h.step rfl ht he (Objs.same h.objs he fun _ _ _ _ _ _ _ => ⟨rfl, rfl⟩)

theorem virgin_ent {q : Nat} (h : s.virgin q = true) : (∀ j, s.ent (.new q j) = none) ∧ q < s.news.length := by
  unfold AS.virgin at h
  split at h
  · rename_i hn
    refine ⟨fun j => ?_, (List.getElem?_eq_some_iff.1 hn).1⟩
    simp [AS.ent, List.getD_eq_getElem?_getD, hn]
  · cases h

theorem ent_born_new {q : Nat} (hq : q < s.news.length) (es : List Ent) (j : Nat) : (s.born q es).ent (.new q j) = es[j]? := by
  simp [AS.ent, AS.born, List.getD_eq_getElem?_getD, hq]

theorem ent_born_other {q : Nat} (es : List Ent) {id : Id} (h : ∀ j, id ≠ .new q j) : (s.born q es).ent id = s.ent id := by
  cases id with
  | old k => rfl
  | new i j =>
    have : i ≠ q := fun e => h j (by rw [e])
    simp only [AS.ent, AS.born, List.getD_eq_getElem?_getD]
    rw [List.getElem?_set_ne (Ne.symm this)]

def updI (β : Id → Option Pl) (id : Id) (p : Option Pl) : Id → Option Pl := fun i => if i = id then p else β i
@[simp] theorem updI_self (β : Id → Option Pl) (id : Id) (p : Option Pl) : updI β id p id = p := by simp [updI]
theorem updI_other (β : Id → Option Pl) (id : Id) (p : Option Pl) {i : Id} (h : i ≠ id) : updI β id p i = β i := by simp [updI, h]

/-- An object of its own, made at a site. -/
theorem Inv.bornAt (h : Inv C g β s a w) {q : Nat} (hq : s.virgin q = true) {w' : World} {g' : Nat → Lab} {c : AVal} {p : Option Pl} (ht : Trans w w' g g')
    (hb : ∀ b, b < w.heap.size → w'.heap[b]? = w.heap[b]? ∧ g' b = g b)
    (ho : EnvLe (s.env w g β) ((s.born q [.obj 0 false c]).env w' g' (updI β (.new q 0) p)) → ObjR ((s.born q [.obj 0 false c]).env w' g' (updI β (.new q 0) p)) (.new q 0) false c) :
    Inv C g' (updI β (.new q 0) p) (s.born q [.obj 0 false c]) a w' ∧ EnvLe (s.env w g β) ((s.born q [.obj 0 false c]).env w' g' (updI β (.new q 0) p)) := by
  obtain ⟨hv, hl⟩ := virgin_ent hq
  have hne : ∀ id, s.ent id ≠ none → ∀ j, id ≠ .new q j := fun id hid j e => hid (by rw [e]; exact hv j)
  have he : EnvLe (s.env w g β) ((s.born q [.obj 0 false c]).env w' g' (updI β (.new q 0) p)) := by
    refine ⟨Trans.mem ht, fun id ver hbd => ?_, fun id ver hbd hc => ?_⟩
    · have hid := hne id hbd.1
      have e := ent_born_other (s := s) [.obj 0 false c] hid
      exact ⟨by show (s.born q _).ent id ≠ none; rw [e]; exact hbd.1, fun v fr c' hh => hbd.2 v fr c' (e.symm.trans hh)⟩
    · have hid := hne id hbd.1
      have e := ent_born_other (s := s) [.obj 0 false c] hid
      obtain ⟨fr, c', hc⟩ := hc
      exact ⟨⟨fr, c', e.symm.trans hc⟩, updI_other _ _ _ (hid 0)⟩
  refine ⟨h.step rfl ht he fun id ver fr c' hid => ?_, he⟩
  have hid' : (s.born q [.obj 0 false c]).ent id = some (.obj ver fr c') := hid
  by_cases hi : ∃ j, id = .new q j
  · obtain ⟨j, rfl⟩ := hi
    rw [ent_born_new hl] at hid'
    cases j with
    | zero =>
      simp only [List.getElem?_cons_zero, Option.some.injEq, Ent.obj.injEq] at hid'
      obtain ⟨rfl, rfl, rfl⟩ := hid'
      exact ho he
    | succ j => simp at hid'
  · have hi' : ∀ j, id ≠ .new q j := fun j e => hi ⟨j, e⟩
    rw [ent_born_other _ hi'] at hid'
    refine (h.objs id ver fr c' hid').mono he (updI_other _ _ _ (hi' 0)) fun pl hp => ?_
    exact hb pl.b ((h.objs id ver fr c' hid').label (pl := pl) hp).1

theorem env_cur_born {q : Nat} (hq : s.virgin q = true) (c : AVal) (w' : World) (g' : Nat → Lab) (β' : Id → Option Pl) : ((s.born q [.obj 0 false c]).env w' g' β').bnd (.new q 0) 0 := by
  have e := ent_born_new (s := s) (virgin_ent hq).2 [.obj 0 false c] 0
  refine ⟨by show (s.born q [.obj 0 false c]).ent (.new q 0) ≠ none; rw [e]; simp, fun v fr c' _ => Nat.zero_le _⟩

/-- A new box. -/
theorem Inv.newBoxC (h : Inv C g β s a w) {q : Nat} (hq : s.virgin q = true) {v : AVal} {cs : List Value} {e : TypeId} (hk : v.boxOk e) (hv : V (s.env w g β) v.strip cs) :
    ∃ g' β', Inv C g' β' (s.born q [.obj 0 false v]) a (w.alloc (.cells cs.toArray e)) ∧
      VS ((s.born q [.obj 0 false v]).env (w.alloc (.cells cs.toArray e)) g' β') (.ptr (.new q 0) 0 [] 0) (.pointer (some ⟨w.heap.size, 0, none⟩)) := by
  have ht := Trans.alloc w g (.cells cs.toArray e) (.own (.id (.new q 0)) 0)
  obtain ⟨h1, h2⟩ := h.bornAt hq (c := v) (p := some ⟨w.heap.size, 0⟩) ht (fun b hb => ⟨alloc_lt w _ hb, upd1_other _ _ _ (by omega)⟩) (fun he =>
    BoxR.obj ⟨⟨w.heap.size, 0⟩, cs.toArray, e, updI_self _ _ _, alloc_at w _, upd1_self _ _ _, hk, by simpa using hv.mono he⟩)
  refine ⟨_, _, h1, ?_⟩
  refine ⟨[.pointer (some ⟨w.heap.size, 0, none⟩)], ?_, rfl⟩
  simp only [V]
  exact ⟨_, rfl, env_cur_born hq _ _ _ _, fun _ => ⟨_, updI_self _ _ _, rfl⟩⟩

theorem Inv.newBox (h : Inv C g β s a w) {q : Nat} (hq : s.virgin q = true) {v : AVal} {cs : List Value} (hv : V (s.env w g β) v cs) (e : TypeId) :
    ∃ g' β', Inv C g' β' (s.born q [.obj 0 false v]) a (w.alloc (.cells cs.toArray e)) ∧
      VS ((s.born q [.obj 0 false v]).env (w.alloc (.cells cs.toArray e)) g' β') (.ptr (.new q 0) 0 [] 0) (.pointer (some ⟨w.heap.size, 0, none⟩)) :=
  h.newBoxC hq (boxOk_not hv.notBx e) (by rw [strip_not hv.notBx]; exact hv)

theorem boxed_ok (P : Program) (T : TypeId) {z : AVal} {E : Env} {cs : List Value} (hv : V E z cs) : (boxed P T z).boxOk T ∧ V E (boxed P T z).strip cs := by
  unfold boxed
  split
  · exact ⟨rfl, hv⟩
  · exact ⟨boxOk_not hv.notBx T, by rw [strip_not hv.notBx]; exact hv⟩

/-- A new block that is only read. -/
theorem Inv.newRead (h : Inv C g β s a w) {t : Ty} {x : t.den} {cs : List Value} (hv : Rep (s.env w g β) t cs x) (e : TypeId) :
    ∃ g', Inv C g' β s a (w.alloc (.cells cs.toArray e)) ∧ EnvLe (s.env w g β) (s.env (w.alloc (.cells cs.toArray e)) g' β) ∧
      VS (s.env (w.alloc (.cells cs.toArray e)) g' β) (.rptr t x) (.pointer (some ⟨w.heap.size, 0, none⟩)) := by
  have ht := Trans.alloc w g (.cells cs.toArray e) .free
  have he : EnvLe (s.env w g β) (s.env (w.alloc (.cells cs.toArray e)) (upd1 g w.heap.size .free) β) := EnvLe.same ht
  refine ⟨_, h.allocFree _, he, [.pointer (some ⟨w.heap.size, 0, none⟩)], ?_, rfl⟩
  simp only [V]
  refine ⟨w.heap.size, 0, cs, rfl, fun i v hi => ⟨_, _, rfl, ?_, ?_⟩, hv.mono he.mem⟩
  · show (w.alloc (.cells cs.toArray e)).cell? ⟨w.heap.size, 0 + i, none⟩ = some v
    rw [World.cell?_alloc_new, Nat.zero_add]; simpa using hi
  · show okAt (upd1 g w.heap.size .free) w.heap.size (0 + i)
    unfold okAt; rw [upd1_self]; trivial

theorem run_newVar (T : TypeId) (y : Value) (w : World) : (newVar T y).run P w = .ok ⟨w.heap.size, 0, none⟩ (w.alloc (.cells y.cells T)) := by
  simp [newVar, newRow]

theorem alloc_runs (h : Inv C g β s a w) {T : TypeId} (ho : o.op = .alloc T) {z : AVal} {q : Nat} (hq : s.virgin q = true) (hz : zchk P T z = true) :
    Runs P o a w (Sts C ((s.born q [.obj 0 false (boxed P T z)]).put o.dst (.ptr (.new q 0) 0 [] 0))) := by
  obtain ⟨i, zv, hi, hzv, hV, hO⟩ := zchk_sound hz (s.env w g β)
  obtain ⟨hk, hV⟩ := boxed_ok P T hV
  obtain ⟨g', β', h1, h2⟩ := h.newBoxC hq hk hV
  refine .inl ⟨.pointer (some ⟨w.heap.size, 0, none⟩), w.alloc (.cells zv.cells T), ?_, g', β', ?_⟩
  · refine exec_value (f := Instr.alloc T true (.tuple #[])) (by simp only [execOp, ho]) ?_
    simp [Instr.alloc, zeroValue, typeInfo, hi, hzv, run_newVar]
  · have := h1.put o.dst h2
    simpa using this

theorem box_runs (h : Inv C g β s a w) {T : TypeId} {x : Operand} {obj : Bool} (ho : o.op = .box T x) {s' : AS} (he : (boxA P s obj o.dst T (s.ev x)).eval = some s') : Runs P o a w (Sts C s') := by
  unfold boxA at he
  cases hd : o.dst with
  | none => rw [hd] at he; simp only [eval_fail] at he
  | some q =>
    rw [hd] at he
    have hev := h.ev x
    have hrun : ∀ cs : List Value, (a.eval x).cells = cs.toArray → (execOp a.eval o).run P w = .ok (.value (.pointer (some ⟨w.heap.size, 0, none⟩))) (w.alloc (.cells cs.toArray T)) := by
      intro cs hcs
      refine exec_value (f := Instr.box T (a.eval x)) (by simp only [execOp, ho]) ?_
      simp [Instr.box, run_newVar, hcs]
    cases obj with
    | true =>
      obtain ⟨hg, hok⟩ := eval_guard.1 he
      obtain rfl := eval_ok.1 hok
      simp only [Bool.and_eq_true] at hg
      obtain ⟨hq, hf⟩ := hg
      obtain ⟨hc, _⟩ := fits_sound hf
      obtain ⟨cs, hV, hO⟩ := hev.celled hc
      obtain ⟨g', β', h1, h2⟩ := h.newBox hq hV T
      refine .inl ⟨_, _, hrun cs (hO.cells hV.one), g', β', ?_⟩
      rw [hd]
      exact h1.put (some q) h2
    | false =>
      simp only at he
      cases ht : tyOf P depth T with
      | none => rw [ht] at he; simp only [eval_fail] at he
      | some t =>
        rw [ht] at he
        obtain ⟨_, he⟩ := eval_guard.1 he
        obtain ⟨y, h1, h2⟩ := eval_bind.1 he
        obtain rfl := eval_ok.1 h2
        obtain ⟨g1, i1, e1, t1, cs, hR, hO⟩ := toTy_sound h hev h1
        obtain ⟨g2, i2, e2, hv⟩ := i1.newRead hR T
        refine .inl ⟨_, _, hrun cs (hO.cells hR.one), g2, β, ?_⟩
        rw [hd]
        exact i2.put (some q) hv

theorem rptr_of {E : Env} {t : Ty} {x : t.den} {y : Value} (h : VS E (.rptr t x) y) : ∃ b off vs, y = .pointer (some ⟨b, off, none⟩) ∧ RowAt E (some ⟨b, off, none⟩) vs ∧ Rep E t vs x := by
  obtain ⟨cs, hv, ho⟩ := h
  simp only [V] at hv
  obtain ⟨b, off, vs, e, hr, hx⟩ := hv
  have ho' : cs = [y] := ho
  rw [e] at ho'
  exact ⟨b, off, vs, by simpa using ho'.symm, hr, hx⟩

theorem ptr_of {E : Env} {id : Id} {ver n : Nat} {p : List Stp} {y : Value} (h : VS E (.ptr id ver p n) y) :
    ∃ a, y = .pointer (some a) ∧ E.bnd id ver ∧ (E.cur id ver → ∃ pl, E.β id = some pl ∧ a = ⟨pl.b, n, none⟩) := by
  obtain ⟨cs, hv, ho⟩ := h
  simp only [V] at hv
  obtain ⟨a, e, hb, hc⟩ := hv
  have ho' : cs = [y] := ho
  rw [e] at ho'
  exact ⟨a, by simpa using ho'.symm, hb, hc⟩

theorem sref_of {E : Env} {id : Id} {ver c i len : Nat} {p : List Stp} {y : Value} (h : VS E (.sref id ver p c i len) y) :
    ∃ a cap, y = .slice a len cap ∧ len ≤ cap ∧ (0 < len → a.isSome = true) ∧ E.bnd id ver ∧
      (E.cur id ver → match E.β id with
        | some pl => (0 < len ∨ i = 0 → a = some ⟨pl.b, c, none⟩) ∧ (p = [] → i = 0 → cap = pl.cap)
        | none => a = none ∧ len = 0 ∧ cap = 0) := by
  obtain ⟨cs, hv, ho⟩ := h
  simp only [V] at hv
  obtain ⟨a, cap, e, rest⟩ := hv
  have ho' : cs = [y] := ho
  rw [e] at ho'
  exact ⟨a, cap, by simpa using ho'.symm, rest⟩

theorem slice_of {E : Env} {t : Ty} {l : List t.den} {y : Value} (h : VS E (.d (.slice t) l) y) :
    ∃ a cap vs, y = .slice a l.length cap ∧ l.length ≤ cap ∧ (0 < l.length → a.isSome = true) ∧ RowAt E a vs ∧ Chunks (Rep E t) vs l := by
  obtain ⟨cs, hv, ho⟩ := h
  simp only [V, Rep] at hv
  obtain ⟨a, cap, vs, e, rest⟩ := hv
  have ho' : cs = [y] := ho
  rw [e] at ho'
  exact ⟨a, cap, vs, by simpa using ho'.symm, rest⟩

theorem nils_of {E : Env} {y : Value} (h : VS E .nils y) : y = .slice none 0 0 := by
  obtain ⟨cs, hv, ho⟩ := h
  simp only [V] at hv
  have ho' : cs = [y] := ho
  rw [hv] at ho'
  simpa using ho'.symm

/-- The cells of an object's content. -/
theorem obj_cells {E : Env} {id : Id} {fr : Bool} {c : AVal} (h : ObjR E id fr c) {p : List Stp} {n : Nat} {v : AVal} (hl : (loc c.strip p).eval = some (n, v)) (hf : v.celled = true) :
    ∃ pl cur e, E.β id = some pl ∧ E.w.heap[pl.b]? = some (.cells cur e (0, 0)) ∧ V E v ((cur.toList.drop n).take v.size) ∧ n + v.size ≤ cur.size := by
  by_cases hn : c.isVec = false
  · obtain ⟨pl, cur, e, hp, hh, hg, _, hV⟩ := h.box hn
    obtain ⟨u, hu⟩ : ∃ u, c.strip = u := ⟨_, rfl⟩
    rw [hu] at hV hl
    rcases loc_sound p u cur.toList n v (VO.of hV) hl with ⟨rfl, rfl⟩ | ⟨h1, h2⟩
    · refine ⟨pl, cur, e, hp, hh, ?_, ?_⟩
      · have := hV.size
        rw [List.drop_zero, List.take_of_length_le (by omega)]
        exact hV
      · have := hV.size
        simp at this ⊢; omega
    · exact ⟨pl, cur, e, hp, hh, h1, by simpa using h2⟩
  · cases c <;> first | (exact absurd rfl hn) | skip
    rename_i e t l
    obtain ⟨hz, h⟩ := h
    cases hp : E.β id with
    | none =>
      rw [hp] at h
      have : l = [] := h
      subst this
      obtain ⟨_, rfl⟩ := loc_none hl
      simp [AVal.celled] at hf
    | some pl =>
      rw [hp] at h
      obtain ⟨cur, k, q1, q2, q3, q4, q5, q6, q7, q8⟩ := h
      have hlen := Chunks.length (fun c x hx => Rep.size hx) q8
      have hsz : l.length * t.size ≤ cur.size := by rw [q2]; exact Nat.mul_le_mul_right _ q3
      rcases loc_sound (E := E) p (.vec e t l) _ n v q8 hl with ⟨rfl, rfl⟩ | ⟨h1, h2⟩
      · simp [AVal.celled] at hf
      · rw [hlen] at h2
        rw [List.drop_take, List.take_take, Nat.min_eq_left (by omega)] at h1
        exact ⟨pl, cur, e, rfl, q1, h1, by omega⟩

theorem load_sound (h : Inv C g β s a w) {T : TypeId} {x : AVal} {y : Value} (hx : VS (s.env w g β) x y) {v : AVal} (he : (loadA P s T x).eval = some v) :
    ∃ ad z, y = .pointer (some ad) ∧ (loadVar T ad).run P w = .ok z w ∧ VS (s.env w g β) v z := by
  unfold loadA at he
  split at he
  · rename_i id ver p n
    cases hob : s.obj id with
    | none => rw [hob] at he; simp only [eval_fail] at he
    | some r =>
      obtain ⟨v0, fr, c⟩ := r
      rw [hob] at he
      obtain ⟨h1, h2⟩ := eval_guard.1 he
      obtain ⟨⟨n', v'⟩, h3, h4⟩ := eval_bind.1 h2
      obtain ⟨h5, h6⟩ := eval_guard.1 h4
      obtain ⟨h7, h8⟩ := eval_chk.1 h6
      obtain rfl := eval_ok.1 h8
      simp only [decide_eq_true_eq] at h7
      have hv0 : v0 = ver := by simpa using h1
      subst hv0 h7
      have hent := obj_some hob
      obtain ⟨ad, rfl, hb, hc⟩ := ptr_of hx
      obtain ⟨pl, hp, rfl⟩ := hc ⟨fr, c, hent⟩
      obtain ⟨hcel, _⟩ := fits_sound h5
      obtain ⟨pl', cur, e, hp', hh, hV, hle⟩ := obj_cells (h.objs id v0 fr c hent) h3 hcel
      rw [hp] at hp'
      obtain rfl : pl = pl' := by simpa using hp'
      obtain ⟨z, hz1, hz2⟩ := run_loadVar_of (P := P) (w := w) h5 (b := pl.b) (off := n') hV.size (fun j x hj => by
        rw [cell_of_row w pl.b (n' + j) cur e (0, 0) hh]
        rw [List.getElem?_take] at hj
        split at hj
        · rw [List.getElem?_drop] at hj; simpa using hj
        · cases hj)
      exact ⟨_, z, rfl, hz1, VS.of hV hz2⟩
  · rename_i t x'
    obtain ⟨h1, h2⟩ := eval_guard.1 he
    obtain rfl := eval_ok.1 h2
    obtain ⟨b, off, vs, rfl, hr, hR⟩ := rptr_of hx
    obtain ⟨z, hz1, hz2⟩ := run_loadVar_of (P := P) (w := w) h1 (b := b) (off := off) hR.size (fun j x hj => by
      obtain ⟨b', off', e, hh⟩ := hr j x hj
      simp only [Option.some.injEq, Addr.mk.injEq, and_true] at e
      obtain ⟨rfl, rfl⟩ := e
      exact hh.1)
    exact ⟨_, z, rfl, hz1, VS.of (by simpa only [V] using hR) hz2⟩
  · simp only [eval_fail] at he

theorem load_runs (h : Inv C g β s a w) {T : TypeId} {x : Operand} (ho : o.op = .load T x) {v : AVal} (he : (loadA P s T (s.ev x)).eval = some v) : Runs P o a w (Sts C (s.put o.dst v)) := by
  obtain ⟨ad, z, hy, hr, hv⟩ := load_sound h (h.ev x) he
  refine h.value hv (exec_value (f := Instr.loadAt T (a.eval x)) (by simp only [execOp, ho]) ?_)
  simp [Instr.loadAt, Instr.sureAddr, hy, hr]

/-- A block of an object is written. -/
theorem Trans.setRow (w : World) {b : Nat} {i : Id} (hg : g b = .own (.id i) 0) (cur : Array Value) : Trans w (w.setRow b cur) g g := by
  refine ⟨by simp, by simp, by simp, by simp, fun b' hb => ?_⟩
  by_cases he : b' = b
  · subst he
    rw [hg]
    exact ⟨.inr ⟨i, 0, rfl, Nat.le_refl _⟩, fun _ _ hh => by omega⟩
  · rw [setRow_other w b b' cur he]
    cases hgb : g b' with
    | free => exact ⟨rfl, rfl⟩
    | own o' k => cases o' with
      | foreign => exact ⟨rfl, rfl⟩
      | id i' => exact ⟨.inr ⟨i', k, rfl, Nat.le_refl _⟩, fun off v _ hv => by rw [cell_setRow_other w b cur _ he]; exact hv⟩

/-- Another object's block is another block. -/
theorem Inv.apart (h : Inv C g β s a w) {id : Id} {k : Nat} {b : Nat} (hg : g b = .own (.id id) k) {i : Id} {ver : Nat} {fr : Bool} {c : AVal} {pl : Pl} (hi : i ≠ id) (hs : s.ent i = some (.obj ver fr c)) (hp : β i = some pl) : pl.b ≠ b := by
  intro hb
  have hl : (∃ k, g pl.b = .own (.id i) k) ∨ (fr = true ∧ g pl.b = .free) := ((h.objs i ver fr c hs).label (pl := pl) hp).2
  rw [hb, hg] at hl
  rcases hl with ⟨k', hk⟩ | ⟨_, hk⟩
  · simp only [Lab.own.injEq, Own.id.injEq] at hk
    exact hi hk.1.symm
  · cases hk

theorem store_sound (h : Inv C g β s a w) {T : TypeId} {x v : AVal} {y z : Value} (hx : VS (s.env w g β) x y) (hz : VS (s.env w g β) v z) {s' : AS} (he : (storeA P s T x v).eval = some s') :
    ∃ ad w', y = .pointer (some ad) ∧ (storeVar T ad z).run P w = .ok () w' ∧ ∃ g' β', Inv C g' β' s' a w' := by
  unfold storeA at he
  split at he
  · rename_i id ver p n
    cases hob : s.obj id with
    | none => rw [hob] at he; simp only [eval_fail] at he
    | some r =>
      obtain ⟨v0, fr, c⟩ := r
      rw [hob] at he
      obtain ⟨h1, h2⟩ := eval_guard.1 he
      obtain ⟨⟨n', o'⟩, h3, h4⟩ := eval_bind.1 h2
      obtain ⟨h5, h6⟩ := eval_guard.1 h4
      obtain ⟨h7, h8⟩ := eval_chk.1 h6
      obtain ⟨c', h9, h10⟩ := eval_bind.1 h8
      obtain rfl := eval_ok.1 h10
      simp only [decide_eq_true_eq] at h7
      simp only [Bool.and_eq_true, beq_iff_eq, Bool.not_eq_true'] at h1
      obtain ⟨⟨hv0, hfr⟩, hfits⟩ := h1
      subst hv0 h7 hfr
      have hent := obj_some hob
      obtain ⟨ad, rfl, hb, hc⟩ := ptr_of hx
      obtain ⟨pl, hp, rfl⟩ := hc ⟨false, c, hent⟩
      have hp : β id = some pl := hp
      obtain ⟨hcel, _⟩ := fits_sound hfits
      obtain ⟨cs, hV, hO⟩ := hz.celled hcel
      have hOb := h.objs id v0 false c hent
      obtain ⟨hcel', _⟩ := fits_sound h5
      have hvec : c.isVec = false ∨ c.isVec = true := by cases c.isVec <;> simp
      rcases hvec with hn | hn
      · obtain ⟨pl', cur, e, hp', hh, hg, hk, hVc⟩ := hOb.box hn
        have hp' : β id = some pl' := hp'
        rw [hp] at hp'
        obtain rfl : pl = pl' := by simpa using hp'
        have hg : g pl.b = .own (.id id) 0 := hg
        have hh : w.heap[pl.b]? = some (.cells cur e (0, 0)) := hh
        obtain ⟨u1, u2, u3⟩ := upd_sound p c.strip cur.toList n' o' v c' cs (VO.of hVc) h3 hV h9
        have u4 := u2.to (u3.notVec hVc.notVec)
        have hrun := run_storeVar_of (P := P) (w := w) hfits hV hO (b := pl.b) (off := n') hh (by simpa using u1)
        have ht := Trans.setRow w hg (splice cur.toList n' cs).toArray
        have hle : EnvLe (s.env w g β) ((s.setEnt id (.obj v0 false (c.wrap c'))).env (w.setRow pl.b (splice cur.toList n' cs).toArray) g β) := EnvLe.setEnt hent (Nat.le_refl _) ht (fun _ _ => rfl) (fun _ => rfl)
        refine ⟨_, _, rfl, hrun, g, β, h.step (slots_setEnt _ _ _) ht hle (Objs.setEnt h.objs (by rw [hent]; simp) hle (fun _ _ => rfl) (fun i ver fr c pl2 hi hs2 hp2 => ⟨setRow_other w pl.b pl2.b _ (h.apart hg hi hs2 hp2), rfl⟩) ?_)⟩
        exact BoxR.obj ⟨pl, _, e, hp, setRow_heap w pl.b cur _ e (0, 0) hh, hg, boxOk_wrap hk u4.notBx, by rw [strip_wrap c u4.notBx]; simpa using V.mono hle u4⟩
      · cases c <;> first | (simp [AVal.isVec] at hn; done) | skip
        rename_i e t l
        obtain ⟨hzz, hOb⟩ := hOb
        have hOb : (match β id with
          | none => l = []
          | some pl => ∃ cur k, w.heap[pl.b]? = some (.cells cur e (0, 0)) ∧ cur.size = pl.cap * t.size ∧ l.length ≤ pl.cap ∧ pl.cap ≤ maxLen ∧ g pl.b = .own (.id id) k ∧
              k ≤ l.length * t.size ∧ (false = false → k = 0) ∧ Chunks (Rep (s.env w g β) t) (cur.toList.take (l.length * t.size)) l) := hOb
        rw [hp] at hOb
        obtain ⟨cur, k, q1, q2, q3, q4, q5, q6, q7, q8⟩ := hOb
        have hk := q7 rfl
        subst hk
        have hlen := Chunks.length (fun c x hx => Rep.size hx) q8
        have hsz : l.length * t.size ≤ cur.size := by rw [q2]; exact Nat.mul_le_mul_right _ q3
        obtain ⟨u1, u2, u3⟩ := upd_sound (E := s.env w g β) p (.vec e t l) _ n' o' v c' cs q8 h3 hV h9
        rw [hlen] at u1
        have hrun := run_storeVar_of (P := P) (w := w) hfits hV hO (b := pl.b) (off := n') q1 (by omega)
        cases c' <;> first | (exact u3.elim) | skip
        rename_i e' t' l'
        obtain ⟨rfl, rfl, hl'⟩ := u3
        have ht := Trans.setRow w q5 (splice cur.toList n' cs).toArray
        have hle : EnvLe (s.env w g β) ((s.setEnt id (.obj v0 false (.vec e' t' l'))).env (w.setRow pl.b (splice cur.toList n' cs).toArray) g β) := EnvLe.setEnt hent (Nat.le_refl _) ht (fun _ _ => rfl) (fun _ => rfl)
        refine ⟨_, _, rfl, hrun, g, β, h.step (slots_setEnt _ _ _) ht hle (Objs.setEnt h.objs (by rw [hent]; simp) hle (fun _ _ => rfl) (fun i ver fr c pl2 hi hs2 hp2 => ⟨setRow_other w pl.b pl2.b _ (h.apart q5 hi hs2 hp2), rfl⟩) ?_)⟩
        refine ⟨hzz, ?_⟩
        show (match β id with
          | none => l' = []
          | some pl => _)
        rw [hp]
        have hsp : (splice cur.toList n' cs).length = cur.toList.length := splice_length (by simp; omega)
        refine ⟨_, 0, setRow_heap w pl.b cur _ e' (0, 0) q1, by rw [List.size_toArray, hsp]; simpa using q2, by omega, q4, q5, by omega, fun _ => rfl, ?_⟩
        have e2 : (splice cur.toList n' cs).take (l'.length * t'.size) = splice (cur.toList.take (l.length * t'.size)) n' cs := by
          rw [hl']
          conv => lhs; rw [← List.take_append_drop (l.length * t'.size) cur.toList]
          rw [splice_left (by rw [hlen]; exact u1), List.take_append_of_le_length (by rw [splice_length (by rw [hlen]; exact u1), hlen]; exact Nat.le_refl _)]
          exact List.take_of_length_le (by rw [splice_length (by rw [hlen]; exact u1), hlen]; exact Nat.le_refl _)
        rw [show (splice cur.toList n' cs).toArray.toList = splice cur.toList n' cs from rfl, e2]
        exact Chunks.mono (fun _ _ hx => hx.mono hle.mem) u2
  · simp only [eval_fail] at he

theorem store_runs (h : Inv C g β s a w) {T : TypeId} {x v : Operand} (ho : o.op = .store T x v) {s' : AS} (he : (storeA P s T (s.ev x) (s.ev v)).eval = some s') : Runs P o a w (Sts C (s'.put o.dst .undef)) := by
  obtain ⟨ad, w', hy, hr, g', β', hi⟩ := store_sound h (h.ev x) (h.ev v) he
  refine .inr (.inl ⟨w', exec_skip (f := Instr.storeAt T (a.eval x) (a.eval v)) (by simp only [execOp, ho]) ?_, g', β', hi.put o.dst VS.undef⟩)
  simp [Instr.storeAt, Instr.sureAddr, hy, hr]

end
end Go.Ab

/-
  Soundness of the operations, third part: values: numbers, tests, parts, places.
-/
namespace Go.Ab

section
variable {P : Program} {C : Ctx} {g : Nat → Lab} {β : Id → Option Pl} {s : AS} {a : Act} {w : World} {o : Oper}

/-! ### Moves, tests -/

theorem move_runs (h : Inv C g β s a w) {x : Operand} (ho : o.op = .move x ∨ o.op = .assign x) : Runs P o a w (Sts C (s.put o.dst (s.ev x))) := by
  refine h.value (h.ev x) ?_
  rcases ho with ho | ho <;> simp [execOp, ho]

theorem pick_runs (h : Inv C g β s a w) {c x y : Operand} (ho : o.op = .pick c x y) {v : AVal} (he : (pickA (s.ev c) (s.ev x) (s.ev y)).eval = some v) : Runs P o a w (Sts C (s.put o.dst v)) := by
  have hc := h.ev c
  have hx := h.ev x
  have hy := h.ev y
  unfold pickA at he
  split at he
  · rename_i b hb
    rw [hb] at hc
    have hcv := bool_of hc
    have hr : (execOp a.eval o).run P w = .ok (.value (if b then a.eval x else a.eval y)) w := by
      simp [execOp, ho, hcv, asBool]
    split at he
    · rename_i bx by' hbx hby
      obtain rfl := eval_ok.1 he
      rw [hbx] at hx
      rw [hby] at hy
      refine h.value ?_ hr
      cases b
      · simpa using hy
      · simpa using hx
    · cases b with
      | true =>
        simp only [Out.eval, Option.some.injEq] at he
        subst he
        exact h.value (by simpa using hx) hr
      | false =>
        simp only [Out.eval, Option.some.injEq] at he
        subst he
        exact h.value (by simpa using hy) hr
  · simp only [eval_fail] at he

theorem nilCheck_runs (h : Inv C g β s a w) {x : Operand} (ho : o.op = .nilCheck x) {s' : AS} (he : (match s.ev x with
    | .ptr id v p n => Out.ok (s.put o.dst (.ptr id v p n))
    | .rptr t y => .ok (s.put o.dst (.rptr t y))
    | .fn f c => .ok (s.put o.dst (.fn f c))
    | _ => .fail).eval = some s') : Runs P o a w (Sts C s') := by
  have hx := h.ev x
  split at he
  · rename_i id v p n hv
    obtain rfl := eval_ok.1 he
    rw [hv] at hx
    obtain ⟨ad, hy, _⟩ := ptr_of hx
    exact h.value hx (by simp [execOp, ho, hy])
  · rename_i t y hv
    obtain rfl := eval_ok.1 he
    rw [hv] at hx
    obtain ⟨b, off, vs, hy, _⟩ := rptr_of hx
    exact h.value hx (by simp [execOp, ho, hy])
  · rename_i f c hv
    obtain rfl := eval_ok.1 he
    rw [hv] at hx
    obtain ⟨cs, hV, hO⟩ := hx.celled rfl
    simp only [V] at hV
    obtain ⟨vs, e, hc⟩ := hV
    have hO' : cs = [a.eval x] := hO
    rw [e] at hO'
    have hy : a.eval x = .func (.func f) #[] vs.toArray := by simpa using hO'.symm
    refine h.value (v := .fn f c) ⟨cs, by simp only [V]; exact ⟨vs, e, hc⟩, hO⟩ (by simp [execOp, ho, hy])
  · simp only [eval_fail] at he

/-! ### Numbers -/

theorem intOp_sound {op : BinOp} {k k' : IntKind} {x y : Int} {v : AVal} (he : (intOp op k x k' y).eval = some v) (T : TypeId) (E : Env) :
    ∃ z, (binOp op T (.int k x) (.int k' y)).run P w = .ok z w ∧ VS E v z := by
  unfold intOp at he
  have same : ∀ (hk : decide (k = k') = true), k = k' := fun hk => by simpa using hk
  cases op with
  | shl =>
    obtain ⟨h1, h2⟩ := eval_chk.1 he
    obtain rfl := eval_ok.1 h2
    have h1 : ¬ y < 0 := by simpa using h1
    exact ⟨_, by simp [binOp, Op.shift, h1], VS_int _ _⟩
  | shr =>
    obtain ⟨h1, h2⟩ := eval_chk.1 he
    obtain rfl := eval_ok.1 h2
    have h1 : ¬ y < 0 := by simpa using h1
    exact ⟨_, by simp [binOp, Op.shift, h1], VS_int _ _⟩
  | quo =>
    obtain ⟨h1, h2⟩ := eval_guard.1 he
    obtain rfl := same h1
    obtain ⟨h3, h4⟩ := eval_chk.1 h2
    obtain rfl := eval_ok.1 h4
    have h3 : y ≠ 0 := by simpa using h3
    exact ⟨_, by simp [binOp, Op.intDiv, h3], VS_int _ _⟩
  | rem =>
    obtain ⟨h1, h2⟩ := eval_guard.1 he
    obtain rfl := same h1
    obtain ⟨h3, h4⟩ := eval_chk.1 h2
    obtain rfl := eval_ok.1 h4
    have h3 : y ≠ 0 := by simpa using h3
    exact ⟨_, by simp [binOp, Op.intDiv, h3], VS_int _ _⟩
  | add | sub | mul =>
    obtain ⟨h1, h2⟩ := eval_guard.1 he
    obtain rfl := same h1
    obtain rfl := eval_ok.1 h2
    exact ⟨_, by simp [binOp, Op.intArith], VS_int _ _⟩
  | and | or | xor | andNot =>
    obtain ⟨h1, h2⟩ := eval_guard.1 he
    obtain rfl := same h1
    obtain rfl := eval_ok.1 h2
    refine ⟨_, ?_, VS_int _ _⟩
    unfold binOp Op.intBits
    simp [bitop]
  | eql | neq | lss | leq | gtr | geq =>
    obtain ⟨h1, h2⟩ := eval_guard.1 he
    obtain rfl := same h1
    obtain rfl := eval_ok.1 h2
    refine ⟨_, ?_, VS_bool _⟩
    simp [binOp, Op.intCmp]

theorem strOp_sound {op : BinOp} {x y : ByteArray} {v : AVal} (he : (strOp op x y).eval = some v) (T : TypeId) (E : Env) :
    ∃ z, (binOp op T (.string x) (.string y)).run P w = .ok z w ∧ VS E v z := by
  unfold strOp at he
  cases op <;> simp only [eval_fail] at he
  case add =>
    obtain ⟨h1, h2⟩ := eval_chk.1 he
    obtain rfl := eval_ok.1 h2
    have h1 : ¬ ((x.size + y.size : Nat) : Int) > IntKind.i64.max := by simpa using h1
    refine ⟨.string (x ++ y), ?_, VS_str _⟩
    show (Op.stringOp .add x y).run P w = _
    unfold Op.stringOp
    simp only [h1, if_false]
    rfl
  all_goals
    obtain rfl := eval_ok.1 he
    exact ⟨_, by simp [binOp, Op.stringOp], VS_bool _⟩

theorem eqGuard_plain {op : BinOp} {T : TypeId} {x y : Operand} {u v : Value} (h1 : u ≠ .nilIface) (h2 : isAggV u = false) : (eqGuard op T x y u v).run P w = .ok () w := by
  unfold eqGuard
  cases op <;> simp
  all_goals (cases u <;> simp_all [isAggV])

/-! ### Parts of structs and arrays -/

theorem isAggT_sound {T : TypeId} {b : Bool} (h : isAggT P T b = true) : ∃ i, P.info? T = some i ∧ ∀ w, (isAgg T).run P w = .ok b w := by
  unfold isAggT at h
  cases hu : P.underlying T with
  | none => rw [hu] at h; cases h
  | some d =>
    obtain ⟨i, hi⟩ := info_of hu
    refine ⟨i, hi, fun w => ?_⟩
    rw [hu] at h
    unfold isAgg
    rw [Sem.run_bind, run_underlying hu w]
    cases d <;> simp at h <;> simp [h]

theorem run_part {T : TypeId} {b : Bool} (h : isAggT P T b = true) {cs : List Value} {off n : Nat} (hn : P.cellsOf T = n) (hb : b = false → n = 1) (hl : off + n ≤ cs.length) :
    ∃ y, (part T cs.toArray off).run P w = .ok y w ∧ OfCells b ((cs.drop off).take n) y := by
  obtain ⟨i, hi, hagg⟩ := isAggT_sound h
  rw [cellsOf_eq hi] at hn
  unfold part
  rw [Sem.run_bind, hagg w]
  simp only [Result.andThen_ok]
  cases b with
  | true =>
    refine ⟨.agg ((cs.drop off).take n).toArray, ?_, rfl⟩
    simp only [if_true, Sem.run_bind, run_sizeOf hi, Result.andThen_ok, hn, Sem.run_pure]
    simp [List.extract_eq_take_drop]
  | false =>
    have h1 := hb rfl
    subst h1
    have hlt : off < cs.length := by omega
    refine ⟨cs[off], ?_, ?_⟩
    · simp [hlt]
    · show (cs.drop off).take 1 = [cs[off]]
      rw [List.drop_eq_getElem_cons hlt, List.take_succ_cons, List.take_zero]

theorem size_one_of {t : Ty} (h : t.agg = false) : t.size = 1 := by
  cases t <;> first | rfl | (simp [Ty.agg] at h)

theorem listBeq_append {α : Type} (f : α → α → Bool) (x y : α) (xs ys : List α) : listBeq f (x :: xs) (y :: ys) = (f x y && listBeq f xs ys) := rfl

/-- '==' goes by the data. -/
theorem equalIn_sound (E : Env) : ∀ (n : Nat) (T : TypeId) (t : Ty), eqChk P n T t = true → ∀ (d : Nat), n ≤ d → ∀ (cx cy : List Value) (x y : t.den) (u v : Value), Rep E t cx x → Rep E t cy y → OfCells t.agg cx u → OfCells t.agg cy v →
    (Op.equalIn d T u v).run P w = .ok (t.beq x y) w
  | 0, T, t, h, _, _, _, _, _, _, _, _, _, _, _, _ => by simp [eqChk] at h
  | n + 1, T, t, h, 0, hd, _, _, _, _, _, _, _, _, _, _ => by omega
  | n + 1, T, t, h, d + 1, hd, cx, cy, x, y, u, v, hx, hy, hu, hv => by
    simp only [eqChk] at h
    split at h
    · rename_i k k' hT
      simp only [Rep] at hx hy
      have e1 : cx = [u] := hu
      have e2 : cy = [v] := hv
      rw [hx] at e1; rw [hy] at e2
      simp only [List.cons.injEq, and_true] at e1 e2
      subst e1 e2
      rw [run_equalIn_int w d T _ _ _ _ hT]; rfl
    · rename_i hT
      simp only [Rep] at hx hy
      have e1 : cx = [u] := hu
      have e2 : cy = [v] := hv
      rw [hx] at e1; rw [hy] at e2
      simp only [List.cons.injEq, and_true] at e1 e2
      subst e1 e2
      rw [run_equalIn_bool' w d T _ _ hT]; rfl
    · rename_i hT
      simp only [Rep] at hx hy
      have e1 : cx = [u] := hu
      have e2 : cy = [v] := hv
      rw [hx] at e1; rw [hy] at e2
      simp only [List.cons.injEq, and_true] at e1 e2
      subst e1 e2
      rw [run_equalIn_string w d T _ _ hT]; rfl
    · rename_i m e m' t' hT
      simp only [Bool.and_eq_true, beq_iff_eq] at h
      obtain ⟨⟨⟨⟨rfl, hz0⟩, hsz⟩, hag⟩, hch⟩ := h
      simp only [Rep] at hx hy
      obtain ⟨hlx, hcx⟩ := hx
      obtain ⟨hly, hcy⟩ := hy
      have e1 : u = .agg cx.toArray := hu
      have e2 : v = .agg cy.toArray := hv
      subst e1 e2
      obtain ⟨i, hi, hagg⟩ := isAggT_sound hag
      have hsz' := hsz
      rw [cellsOf_eq hi] at hsz'
      simp only [Op.equalIn, Sem.run_bind, run_underlying hT, Result.andThen_ok, run_sizeOf hi, hsz']
      simp only [Std.Legacy.Range.forIn_eq_forIn_range']
      have hm : ([:m] : Std.Legacy.Range).size = m := by simp [Std.Legacy.Range.size]
      rw [hm]
      have hzz : ∀ c z, Rep E t' c z → c.length = t'.size := fun c z hz => hz.size
      have bx : t'.agg = false → t'.size = 1 := size_one_of
      have key : ∀ (k : Nat) (x y : List t'.den) (j : Nat), x.length = k → y.length = k → Chunks (Rep E t') (cx.drop (j * t'.size)) x → Chunks (Rep E t') (cy.drop (j * t'.size)) y →
          (forIn (List.range' j k) ((none, ()) : Option Bool × Unit) fun i __s => (do
            let __do_lift ← part e cx.toArray (i * t'.size)
            let __do_lift_1 ← part e cy.toArray (i * t'.size)
            let __do_lift ← Op.equalIn d e __do_lift __do_lift_1
            if (!__do_lift) = true then pure (ForInStep.done (some false, ())) else pure (ForInStep.yield (none, ())) : Sem (ForInStep (Option Bool × Unit)))).run P w = .ok (if listBeq t'.beq x y then none else some false, ()) w := by
        intro k
        induction k with
        | zero =>
          intro x y j hx hy _ _
          rw [List.length_eq_zero_iff.1 hx, List.length_eq_zero_iff.1 hy]
          rfl
        | succ k ih =>
          intro x y j hx hy hcx' hcy'
          cases x with
          | nil => simp at hx
          | cons x0 xs =>
            cases y with
            | nil => simp at hy
            | cons y0 ys =>
              have gx := Chunks.get hzz hcx' 0 (by simp)
              have gy := Chunks.get hzz hcy' 0 (by simp)
              simp only [Nat.zero_mul, List.drop_zero, List.getElem_cons_zero] at gx gy
              have lenx : ((cx.drop (j * t'.size)).take t'.size).length = t'.size := gx.size
              have leny : ((cy.drop (j * t'.size)).take t'.size).length = t'.size := gy.size
              have hz1 : t'.size ≠ 0 := by simpa using hz0
              have hjx : j * t'.size + t'.size ≤ cx.length := by simp only [List.length_take, List.length_drop] at lenx; omega
              have hjy : j * t'.size + t'.size ≤ cy.length := by simp only [List.length_take, List.length_drop] at leny; omega
              obtain ⟨ux, h1, o1⟩ := run_part (w := w) hag hsz bx (cs := cx) (off := j * t'.size) hjx
              obtain ⟨uy, h2, o2⟩ := run_part (w := w) hag hsz bx (cs := cy) (off := j * t'.size) hjy
              have h3 := equalIn_sound E n e t' hch d (by omega) _ _ x0 y0 ux uy gx gy o1 o2
              have nx : Chunks (Rep E t') (cx.drop ((j + 1) * t'.size)) xs := by
                have := Chunks.drop hzz 1 hcx'
                rw [List.drop_drop] at this
                simpa [Nat.add_mul] using this
              have ny : Chunks (Rep E t') (cy.drop ((j + 1) * t'.size)) ys := by
                have := Chunks.drop hzz 1 hcy'
                rw [List.drop_drop] at this
                simpa [Nat.add_mul] using this
              have := ih xs ys (j + 1) (by simpa using hx) (by simpa using hy) nx ny
              rw [List.range'_succ, List.forIn_cons]
              simp only [Sem.run_bind, h1, h2, h3, Result.andThen_ok, listBeq_append]
              rcases Bool.eq_false_or_eq_true (t'.beq x0 y0) with hb | hb
              · simp only [hb, Bool.not_true, Bool.false_eq_true, if_false, Sem.run_pure, Result.andThen_ok, Bool.true_and]
                exact this
              · simp only [hb, Bool.not_false, if_true, Sem.run_pure, Result.andThen_ok, Bool.false_and, Bool.false_eq_true, if_false]
      have := key m x y 0 hlx hly (by simpa using hcx) (by simpa using hcy)
      rw [this]
      show _ = Result.ok (listBeq t'.beq x y) w
      cases listBeq t'.beq x y <;> rfl
    · rename_i t0 _ _ fs hT
      simp only [Bool.and_eq_true, Bool.not_eq_true'] at h
      obtain ⟨hst, hfs⟩ := h
      have hF : P.fieldsOf T = fs := by simp [Program.fieldsOf, hT]
      have hT' : P.underlying T = some (.struct (P.fieldsOf T)) := by rw [hF]; exact hT
      have key : ∀ (fl : List Field) (t : Ty) (off : Nat), eqFs P (eqChk P n) fl t off = true → ∀ (x y : t.den), Rep E t (cx.drop off) x → Rep E t (cy.drop off) y →
          (Op.eqFields d cx.toArray cy.toArray fl).run P w = .ok (t.beq x y) w := by
        intro fl
        induction fl with
        | nil =>
          intro t off hc x y _ _
          cases t <;> first | (simp [eqFs] at hc; done) | rfl
        | cons f fl ih =>
          intro t off hc x y hx hy
          cases t <;> first | (simp [eqFs] at hc; done) | skip
          rename_i ta tb
          simp only [eqFs, Bool.and_eq_true, Bool.not_eq_true', beq_iff_eq, beq_eq_false_iff_ne] at hc
          obtain ⟨⟨⟨⟨⟨⟨hnm, hoff⟩, hz⟩, hsz⟩, hag⟩, hch⟩, hrest⟩ := hc
          simp only [Rep] at hx hy
          obtain ⟨xa, xb, ex, hxa, hxb⟩ := hx
          obtain ⟨ya, yb, ey, hya, hyb⟩ := hy
          have bx : ta.agg = false → ta.size = 1 := size_one_of
          have lx : xa.length = ta.size := hxa.size
          have ly : ya.length = ta.size := hya.size
          have split : ∀ (cs xa xb : List Value), cs.drop off = xa ++ xb → xa.length = ta.size → (cs.drop off).take ta.size = xa ∧ cs.drop (off + ta.size) = xb ∧ off + ta.size ≤ cs.length := by
            intro cs xa xb e l
            refine ⟨by rw [e]; exact List.take_left' l, by rw [← List.drop_drop, e]; exact List.drop_left' l, ?_⟩
            have := congrArg List.length e
            simp only [List.length_drop, List.length_append] at this
            omega
          obtain ⟨sx1, sx2, sx3⟩ := split cx xa xb ex lx
          obtain ⟨sy1, sy2, sy3⟩ := split cy ya yb ey ly
          obtain ⟨ux, h1, o1⟩ := run_part (w := w) hag hsz bx (cs := cx) (off := off) sx3
          obtain ⟨uy, h2, o2⟩ := run_part (w := w) hag hsz bx (cs := cy) (off := off) sy3
          rw [sx1] at o1
          rw [sy1] at o2
          have h3 := equalIn_sound E n f.type ta hch d (by omega) _ _ x.1 y.1 ux uy hxa hya o1 o2
          have h4 := ih tb (off + ta.size) hrest x.2 y.2 (by rw [sx2]; exact hxb) (by rw [sy2]; exact hyb)
          simp only [Op.eqFields, ne_eq, hnm, not_false_eq_true, if_true, Sem.run_bind, hoff, h1, h2, h3, Result.andThen_ok]
          show _ = Result.ok (ta.beq x.1 y.1 && tb.beq x.2 y.2) w
          rcases Bool.eq_false_or_eq_true (ta.beq x.1 y.1) with hb | hb
          · simp only [hb, Bool.not_true, Bool.false_eq_true, if_false, Bool.true_and]
            exact h4
          · simp [hb]
      have hag : t0.agg = true := by
        cases hl : fs.toList <;> rw [hl] at hfs <;> cases t0 <;> first | rfl | (simp [eqFs] at hfs; done)
      rw [hag] at hu hv
      have e1 : u = .agg cx.toArray := hu
      have e2 : v = .agg cy.toArray := hv
      subst e1 e2
      rw [run_equalIn_struct w d T _ _ hT' hst, hF]
      exact key fs.toList t0 0 hfs x y (by simpa using hx) (by simpa using hy)
    · cases h

end
end Go.Ab
