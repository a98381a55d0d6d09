/-
  Soundness of the operations, eighth part: composites, new slices, append.
-/
import Derived.Test.YtdmpbapgnkdjpaaAb11
namespace Go.Ab

section
variable {P : Program} {C : Ctx} {g : Nat → Lab} {β : Id → Option Pl} {s : AS} {a : Act} {w : World} {o : Oper}

theorem foldl_put (off : Nat) : ∀ (vs : List Value) (k : Nat) (cells : Array Value), off + k + vs.length ≤ cells.size →
    ((vs.zipIdx k).foldl (fun cs (c, j) => cs.setIfInBounds (off + j) c) cells).toList = splice cells.toList (off + k) vs
  | [], k, cells, _ => by simp [splice]
  | v :: vs, k, cells, h => by
    simp only [List.length_cons] at h
    rw [List.zipIdx_cons, List.foldl_cons, foldl_put off vs (k + 1) _ (by simpa using (by omega : off + (k + 1) + vs.length ≤ cells.size))]
    rw [Array.toList_setIfInBounds]
    have := list_seg_step cells.toList (off + k) v vs (by simp; omega)
    unfold splice
    simpa [Nat.add_assoc] using this

theorem fill_step {place : Nat → Option (Nat × Nat)} {cells : Array Value} {i off : Nat} {v : Value} {vs : List Value} {rest : List (Nat × Value)} (hp : place i = some (off, vs.length)) (hv : v.cells = vs.toArray) (hl : off + vs.length ≤ cells.size) :
    Instr.fill place cells ((i, v) :: rest) = Instr.fill place (splice cells.toList off vs).toArray rest := by
  have h1 : v.cells.size = vs.length := by rw [hv]; simp
  have h2 : ¬ (v.cells.size ≠ vs.length || off + v.cells.size > cells.size) = true := by simp [h1]; omega
  simp only [Instr.fill, hp]
  rw [if_neg h2]
  congr 1
  apply Array.ext'
  have := foldl_put off vs 0 cells (by omega)
  simp only [Nat.add_zero] at this
  rw [← this, hv]
  rw [← Array.foldl_toList]
  simp

/-- Parts laid into a row of elements. -/
theorem setParts_fill {E E' : Env} (hs : E.s = s.ent) (ho : Objs E) (he : EnvLe E E') {t : Ty} (hev : ∀ x, VS E (s.ev x) (a.eval x)) :
    ∀ (ps : List (Nat × Operand)) (l : List t.den) (r : List t.den × List Id) (cells : Array Value), (setParts t s ps l).eval = some r → Frz E E' r.2 → Chunks (Rep E' t) cells.toList l →
      ∃ cells', Instr.fill (fun i => some (i * t.size, t.size)) cells (ps.map fun (i, x) => (i, a.eval x)) = some cells' ∧ Chunks (Rep E' t) cells'.toList r.1
  | [], l, r, cells, h, _, hc => by
    obtain rfl := eval_ok.1 h
    exact ⟨cells, rfl, hc⟩
  | (i, x) :: ps, l, r, cells, h, hf, hc => by
    simp only [setParts] at h
    obtain ⟨h1, h2⟩ := eval_guard.1 h
    obtain ⟨y, h3, h4⟩ := eval_bind.1 h2
    obtain ⟨r', h5, h6⟩ := eval_bind.1 h4
    obtain rfl := eval_ok.1 h6
    have hi : i < l.length := by simpa using h1
    obtain ⟨cs, hV, hO⟩ := (hev x).celled (toTy_celled h3)
    have hR := toTy_rep hs ho he _ t y cs hV h3 (fun id hid => hf id (by simp [hid]))
    have hcell := hO.cells hV.one
    have hlen := hc.length (fun _ _ hx => Rep.size hx)
    have hsz := hR.size
    have hle : i * t.size + cs.length ≤ cells.size := by
      have := Nat.mul_le_mul_right t.size (show i + 1 ≤ l.length by omega)
      rw [Nat.add_mul, Nat.one_mul] at this
      simp at hlen
      omega
    have hset := Chunks.set (fun _ _ hx => Rep.size hx) hc i hi hR
    obtain ⟨cells', q1, q2⟩ := setParts_fill hs ho he hev ps (l.set i y) r' (splice cells.toList (i * t.size) cs).toArray h5 (fun id hid => hf id (by simp [hid])) hset
    refine ⟨cells', ?_, q2⟩
    rw [List.map_cons, fill_step (by rw [hsz]) hcell hle]
    exact q1

theorem range_zero_chunks {E : Env} {t : Ty} {zc : Array Value} (hz : Rep E t zc.toList t.zero) : ∀ n : Nat, Chunks (Rep E t) (madeCells zc (n * t.size)).toList (List.replicate n t.zero) := by
  have hsz : zc.size = t.size := by have := hz.size; simpa using this
  intro n
  induction n with
  | zero => simp [madeCells, Chunks]
  | succ n ih =>
    have e : (madeCells zc ((n + 1) * t.size)).toList = (madeCells zc (n * t.size)).toList ++ zc.toList := by
      apply List.ext_getElem?
      intro j
      rw [Nat.add_mul, Nat.one_mul]
      simp only [madeCells, Array.toList_map, Array.toList_range, List.getElem?_map, List.getElem?_append, List.length_map, List.length_range]
      by_cases hj : j < n * t.size
      · have hj' : j < n * t.size + t.size := by omega
        simp [hj, hj', hsz]
      · by_cases hj' : j < n * t.size + t.size
        · have hlt : j - n * t.size < zc.size := by omega
          have hm : j % t.size = j - n * t.size := by
            have : j = (j - n * t.size) + t.size * n := by rw [Nat.mul_comm t.size n]; omega
            rw [this, Nat.add_mul_mod_self_left, Nat.mod_eq_of_lt (by omega)]
            rw [Nat.mul_comm t.size n]; omega
          simp [hj, hj', hsz, hm]
          rw [getElem?_pos zc _ hlt, getElem!_pos zc _ hlt]
        · have h1 : ¬ j - n * t.size < zc.size := by omega
          simp [hj, hj', h1]
    rw [e, List.replicate_succ']
    exact Chunks.append ih (Chunks.one hz)

theorem elemOfT_sound {T : TypeId} {e : TypeId} {t : Ty} {b : Nat} (h : elemOfT P T = some (e, t, b)) :
    P.underlying T = some (.slice e) ∧ 0 < t.size ∧ ∃ i zv, P.info? e = some i ∧ i.size = t.size ∧ i.bytes = b ∧ i.zero = some zv ∧ ∀ E, Rep E t zv.cells.toList t.zero := by
  unfold elemOfT at h
  split at h
  · rename_i e' hT
    split at h
    · rename_i t' ht
      split at h
      · rename_i hg
        simp only [Option.some.injEq, Prod.mk.injEq] at h
        obtain ⟨rfl, rfl, rfl⟩ := h
        simp only [Bool.and_eq_true, Bool.not_eq_true', beq_iff_eq, beq_eq_false_iff_ne] at hg
        obtain ⟨⟨h1, h2⟩, h3⟩ := hg
        obtain ⟨i, zv, hi, hz, _, _⟩ := zchk_sound h3 { w := default, g := fun _ => .free, β := fun _ => none, s := fun _ => none }
        refine ⟨hT, by omega, i, zv, hi, by rw [← cellsOf_eq hi]; exact h1, by simp [Program.bytesOf, hi], hz, fun E => ?_⟩
        obtain ⟨i', zv', hi', hz', hV, _⟩ := zchk_sound h3 E
        rw [hi] at hi'
        obtain rfl : i = i' := by simpa using hi'
        rw [hz] at hz'
        obtain rfl : zv = zv' := by simpa using hz'
        simpa only [V] using hV
      · cases h
    · cases h
  · cases h

/-- A new slice of one's own. -/
theorem Inv.newVec (h : Inv C g β s a w) {q : Nat} (hq : s.virgin q = true) {e : TypeId} {t : Ty} {l : List t.den} {cur : Array Value} {cap : Nat} (hz : 0 < t.size) (hc : Chunks (Rep (s.env w g β) t) (cur.toList.take (l.length * t.size)) l)
    (hs : cur.size = cap * t.size) (hl : l.length ≤ cap) (hm : cap ≤ maxLen) :
    ∃ g' β', Inv C g' β' (s.born q [.obj 0 false (.vec e t l)]) a (w.alloc (.cells cur e)) ∧
      VS ((s.born q [.obj 0 false (.vec e t l)]).env (w.alloc (.cells cur e)) g' β') (.sref (.new q 0) 0 [] 0 0 l.length) (.slice (some ⟨w.heap.size, 0, none⟩) l.length cap) := by
  have ht := Trans.alloc w g (.cells cur e) (.own (.id (.new q 0)) 0)
  obtain ⟨h1, h2⟩ := h.bornAt hq (c := .vec e t l) (p := some ⟨w.heap.size, cap⟩) ht (fun b hb => ⟨alloc_lt w _ hb, upd1_other _ _ _ (by omega)⟩) (fun he => by
    refine ⟨hz, ?_⟩
    show (match updI β (.new q 0) (some ⟨w.heap.size, cap⟩) (.new q 0) with
      | none => l = []
      | some pl => _)
    rw [updI_self]
    exact ⟨cur, 0, alloc_at w _, hs, hl, hm, upd1_self _ _ _, Nat.zero_le _, fun _ => rfl, hc.mono fun _ _ hx => hx.mono he.mem⟩)
  refine ⟨_, _, h1, _, ?_, rfl⟩
  simp only [V]
  refine ⟨_, _, rfl, hl, fun _ => rfl, env_cur_born hq _ _ _ _, fun _ => ?_⟩
  show (match updI β (.new q 0) (some ⟨w.heap.size, cap⟩) (.new q 0) with
      | some pl => _
      | none => _)
  rw [updI_self]
  exact ⟨fun _ => rfl, fun _ _ => rfl⟩

/-- A slice of one's own that is nil. -/
theorem Inv.nilVec (h : Inv C g β s a w) {q : Nat} (hq : s.virgin q = true) {e : TypeId} {t : Ty} (hz : 0 < t.size) :
    ∃ β', Inv C g β' (s.born q [.obj 0 false (.vec e t [])]) a w ∧ EnvLe (s.env w g β) ((s.born q [.obj 0 false (.vec e t [])]).env w g β') ∧
      VS ((s.born q [.obj 0 false (.vec e t [])]).env w g β') (.sref (.new q 0) 0 [] 0 0 0) (.slice none 0 0) := by
  have ht := Trans.refl w g
  obtain ⟨h1, h2⟩ := h.bornAt hq (c := .vec e t []) (p := none) ht (fun b hb => ⟨rfl, rfl⟩) (fun he => by
    refine ⟨hz, ?_⟩
    show (match updI β (.new q 0) none (.new q 0) with
      | none => ([] : List t.den) = []
      | some pl => _)
    rw [updI_self])
  refine ⟨_, h1, h2, _, ?_, rfl⟩
  simp only [V]
  refine ⟨_, _, rfl, Nat.le_refl _, fun hh => by omega, env_cur_born hq _ _ _ _, fun _ => ?_⟩
  simp [AS.env]

theorem map_parts (parts : Array (Nat × Operand)) : (parts.map fun (i, x) => (i, a.eval x)).toList = parts.toList.map fun (i, x) => (i, a.eval x) := by simp

theorem buildSlice_runs (h : Inv C g β s a w) {T : TypeId} {n : Nat} {parts : Array (Nat × Operand)} {obj : Bool} (ho : o.op = .buildSlice T n parts) {s' : AS} (he : (buildSliceA P s obj o.dst T n parts.toList).eval = some s') : Runs P o a w (Sts C s') := by
  unfold buildSliceA at he
  split at he
  · rename_i e t b q hel hd
    obtain ⟨hT, hz, i, zv, hi, his, hib, hzv, hzr⟩ := elemOfT_sound hel
    obtain ⟨h1, h2⟩ := eval_guard.1 he
    obtain ⟨r, h3, h4⟩ := eval_bind.1 h2
    simp only [decide_eq_true_eq] at h1
    obtain ⟨g1, i1, e1, t1, f1⟩ := freezeAll_sound r.2 h
    have hzc : zv.cells.size = t.size := by have := (hzr (s.env w g β)).size; simpa using this
    obtain ⟨cells', hfill, hch⟩ := setParts_fill (a := a) rfl h.objs e1 h.ev parts.toList _ r (madeCells zv.cells (n * t.size)) h3 f1 (range_zero_chunks (hzr _) n)
    have hlr : r.1.length = n := by
      have : ∀ (ps : List (Nat × Operand)) (l : List t.den) (r : List t.den × List Id), (setParts t s ps l).eval = some r → r.1.length = l.length := by
        intro ps
        induction ps with
        | nil => intro l r hh; obtain rfl := eval_ok.1 hh; rfl
        | cons p ps ih =>
          intro l r hh
          obtain ⟨i, x⟩ := p
          simp only [setParts] at hh
          obtain ⟨_, h2⟩ := eval_guard.1 hh
          obtain ⟨y, h3, h4⟩ := eval_bind.1 h2
          obtain ⟨r', h5, h6⟩ := eval_bind.1 h4
          obtain rfl := eval_ok.1 h6
          have := ih _ _ h5
          simpa using this
      rw [this _ _ _ h3]
      simp
    have hcl := hch.length (fun _ _ hx => Rep.size hx)
    have hrun : (execOp a.eval o).run P w = .ok (.value (.slice (some ⟨w.heap.size, 0, none⟩) n n)) (w.alloc (.cells cells' e)) := by
      refine exec_value (f := Instr.buildSlice T n (parts.map fun (i, x) => (i, a.eval x))) (by simp only [execOp, ho]) ?_
      have hbig : ¬ n * t.size > 2 ^ 24 := by omega
      have hfill' : Instr.fill (fun i => some (i * t.size, t.size)) ((Array.range (n * t.size)).map (fun x => (zv.cells)[x % zv.cells.size]!)) (parts.map fun (i, x) => (i, a.eval x)).toList = some cells' := by
        rw [map_parts]; exact hfill
      by_cases hn : n * t.size = 0
      · have hn0 : n = 0 := by
          rcases Nat.mul_eq_zero.1 hn with h' | h'
          · exact h'
          · omega
        subst hn0
        simp only [Nat.zero_mul] at hfill' hbig
        have h0 : Array.range 0 = #[] := rfl
        rw [h0, Array.map_empty] at hfill'
        simp at hfill'
        simp [Instr.buildSlice, run_underlying hT, run_sizeOf hi, his, newRow, h0, hfill']
      · simp [Instr.buildSlice, run_underlying hT, run_sizeOf hi, his, newRow, hn, hbig, zeroValue, typeInfo, hi, hzv]
        simp at hfill'
        simp [hfill']
    cases obj with
    | true =>
      simp only at h4
      obtain ⟨hq, h5⟩ := eval_guard.1 h4
      obtain rfl := eval_ok.1 h5
      rw [← virgin_freezeAll r.2] at hq
      have hfull : cells'.toList.take (r.1.length * t.size) = cells'.toList := List.take_of_length_le (by omega)
      obtain ⟨g2, β2, i2, hv2⟩ := i1.newVec hq (e := e) (l := r.1) (cur := cells') (cap := n) hz (by rw [hfull]; exact hch) (by simp at hcl; rw [hcl, hlr]) (by omega) (by
        have : n ≤ n * t.size := Nat.le_mul_of_pos_right n hz
        unfold maxLen; omega)
      refine .inl ⟨_, _, hrun, g2, β2, ?_⟩
      rw [hd]
      rw [hlr] at hv2 ⊢
      exact i2.put (some q) hv2
    | false =>
      simp only at h4
      obtain rfl := eval_ok.1 h4
      have i2 := i1.allocFree (.cells cells' e)
      refine .inl ⟨_, _, hrun, upd1 g1 w.heap.size .free, β, ?_⟩
      rw [hd]
      refine i2.put (some q) ⟨[.slice (some ⟨w.heap.size, 0, none⟩) n n], ?_, rfl⟩
      simp only [V, Rep]
      refine ⟨_, n, cells'.toList, by rw [hlr], by omega, fun _ => rfl, fun j v hj => ⟨_, _, rfl, ?_, ?_⟩, hch.mono fun _ _ hx => hx.mono (Trans.mem (E := (s.freezeAll r.2).env w g1 β) (E' := (s.freezeAll r.2).env (w.alloc (.cells cells' e)) (upd1 g1 w.heap.size .free) β) (Trans.alloc w g1 (.cells cells' e) .free))⟩
      · show (w.alloc (.cells cells' e)).cell? ⟨w.heap.size, 0 + j, none⟩ = some v
        rw [World.cell?_alloc_new, Nat.zero_add]; simpa using hj
      · show okAt (upd1 g1 w.heap.size .free) w.heap.size (0 + j)
        unfold okAt; rw [upd1_self]; trivial
  · simp only [eval_fail] at he

theorem makeSlice_runs (h : Inv C g β s a w) {T : TypeId} {x y : Operand} (ho : o.op = .makeSlice T x y) {len cap : Int} (hx : (asInt (s.ev x)).eval = some len) (hy : (asInt (s.ev y)).eval = some cap) {s' : AS}
    (he : (makeSliceA P s o.dst T len cap).eval = some s') : Runs P o a w (Sts C s') := by
  obtain ⟨k, hx⟩ := asInt_of (h.ev x) hx
  obtain ⟨k', hy⟩ := asInt_of (h.ev y) hy
  unfold makeSliceA at he
  split at he
  · rename_i e t b q hel hd
    obtain ⟨hT, hz, i, zv, hi, his, hib, hzv, hzr⟩ := elemOfT_sound hel
    obtain ⟨hq, h2⟩ := eval_guard.1 he
    obtain ⟨h3, h4⟩ := eval_chk.1 h2
    obtain rfl := eval_ok.1 h4
    simp only [Bool.and_eq_true, decide_eq_true_eq, roomA] at h3
    obtain ⟨⟨h5, h6⟩, h7, h8⟩ := h3
    have hbytes : (i.bytes : Int) * cap ≤ 281474976710656 := by
      rw [hib]
      have : ((cap.toNat * b : Nat) : Int) ≤ 140737488355328 := by omega
      rw [Int.natCast_mul, show ((cap.toNat : Nat) : Int) = cap by omega, Int.mul_comm] at this
      omega
    have hr := run_make (P := P) w T e i zv hT hi hzv k k' len cap h5 h6 hbytes (by omega)
    rw [his] at hr
    have hzc : zv.cells.size = t.size := by have := (hzr (s.env w g β)).size; simpa using this
    have hall := range_zero_chunks (hzr (s.env w g β)) cap.toNat
    have htk := Chunks.take (fun _ _ hx => Rep.size hx) len.toNat hall
    rw [List.take_replicate, Nat.min_eq_left (by omega)] at htk
    obtain ⟨g2, β2, i2, hv2⟩ := h.newVec hq (e := e) (l := List.replicate len.toNat t.zero) (cur := madeCells zv.cells (cap.toNat * t.size)) (cap := cap.toNat) hz (by rw [List.length_replicate]; exact htk) (size_madeCells _ _) (by rw [List.length_replicate]; omega) (by unfold maxLen; omega)
    rw [List.length_replicate] at hv2
    refine .inl ⟨_, _, exec_value (f := Instr.makeSlice T (a.eval x) (a.eval y)) (by simp only [execOp, ho]) (by rw [hx, hy]; exact hr), g2, β2, ?_⟩
    rw [hd]
    exact i2.put (some q) hv2
  · simp only [eval_fail] at he

end
end Go.Ab
