/-
  The abstract machine, a part.
-/
import Derived.Test.YtglpcfdjdabdnaaAb15
import Derived.Lib.Builder
import Derived.Lib.UnsafeStr
import Derived.Lib.AppendZeros

/-
  Soundness of the operations, more of them: pointers without a type, texts out of rows, zeros, the lesser and the greater.
-/
namespace Go.Ab

section
variable {P : Program} {C : Ctx} {g : Nat → Lab} {β : Id → Option Pl} {s : AS} {a : Act} {w : World} {o : Oper}

theorem builtin_runs {b : Builtin} {args : Array Operand} {ts : Array TypeId} {F : TypeId → Array Value → Sem Value} {x : Value} {w' : World} {s' : AS} (ho : o.op = .call { callee := .builtin b, args, argTypes := ts })
    (hb : ∀ ty cs xs, builtin b ts ty cs xs = (do pure (.value (← F ty xs)))) (hf : ∀ ty, (F ty (args.map a.eval)).run P w = .ok x w') (h2 : ∃ g' β', Inv C g' β' s' (a.put o.dst x) w') : Runs P o a w (Sts C s') := by
  refine .inl ⟨x, w', ?_, h2⟩
  simp only [execOp, ho, resolve, Sem.run_bind, Sem.run_pure, Result.andThen_ok, invoke]
  rw [hb, Sem.run_bind, hf]
  rfl

theorem convP_runs (h : Inv C g β s a w) {src dst : TypeId} {x : Operand} (ho : o.op = .convert src dst x) {id : Id} {ver : Nat} (hx : s.ev x = .ptr id ver [] 0) {v : AVal} (he : (convP P s src dst id ver).eval = some v) : Runs P o a w (Sts C (s.put o.dst v)) := by
  have hv := h.ev x
  rw [hx] at hv
  obtain ⟨ad, hy, hb, hc⟩ := ptr_of hv
  have fin : v = .ptr id ver [] 0 → (convert src dst (a.eval x)).run P w = .ok (a.eval x) w → Runs P o a w (Sts C (s.put o.dst v)) := by
    intro h1 h2
    subst h1
    exact h.value hv (exec_value (f := convert src dst (a.eval x)) (by simp only [execOp, ho]) h2)
  unfold convP at he
  split at he
  · rename_i v0 fr e c hob
    have hent := obj_some hob
    obtain ⟨pl', cur, e', hp', hh, hg, hk, hV⟩ := (h.objs id v0 fr _ hent).box rfl
    have hk : e' = e := hk
    subst hk
    have hh : w.heap[pl'.b]? = some (.cells cur e' (0, 0)) := hh
    have hsz := hV.size
    have hsz : cur.toList.length = c.size := hsz
    have hsh : w.shape? pl'.b = some (e', c.size) := by simp only [World.shape?, hh]; rw [← hsz]; simp
    have hp' : β id = some pl' := hp'
    split at he
    · rename_i t hS hD
      obtain ⟨h1, h2⟩ := eval_guard.1 he
      have h2 := eval_ok.1 h2
      simp only [Bool.and_eq_true, beq_iff_eq, Bool.not_eq_true', beq_eq_false_iff_ne] at h1
      obtain ⟨⟨rfl, h3⟩, h4⟩ := h1
      obtain ⟨pl, hp, rfl⟩ := hc ⟨fr, _, hent⟩
      have hp : β id = some pl := hp
      rw [hp'] at hp
      obtain rfl : pl' = pl := by simpa using hp
      refine fin h2.symm ?_
      rw [hy]
      cases hi : P.info? t with
      | none => exact absurd (by simp [Program.cellsOf, hi]) h3
      | some j =>
        have hj : j.size ≠ 0 := by rw [← cellsOf_eq hi] at *; exact h3
        exact Go.Lib.run_to_unsafe w _ hS hD hi hj hsh (by show 0 < c.size; omega)
    · rename_i u hS hD
      obtain ⟨h1, h2⟩ := eval_guard.1 he
      have h2 := eval_ok.1 h2
      simp only [Bool.and_eq_true, beq_iff_eq, Bool.not_eq_true', beq_eq_false_iff_ne] at h1
      obtain ⟨⟨rfl, h3⟩, h4⟩ := h1
      obtain ⟨pl, hp, rfl⟩ := hc ⟨fr, _, hent⟩
      have hp : β id = some pl := hp
      rw [hp'] at hp
      obtain rfl : pl' = pl := by simpa using hp
      refine fin h2.symm ?_
      rw [hy]
      cases hi : P.info? u with
      | none => exact absurd (by simp [Program.cellsOf, hi]) h3
      | some j => exact Go.Lib.run_from_unsafe w _ hS hD hi hsh h4
    · simp only [eval_fail] at he
  · simp only [eval_fail] at he

theorem eqP_runs (h : Inv C g β s a w) {T U : TypeId} {op : BinOp} {x y : Operand} (ho : o.op = .binOp op T x y U) {i j : Id} {v1 v2 : Nat} (hx : s.ev x = .ptr i v1 [] 0) (hy : s.ev y = .ptr j v2 [] 0) {v : AVal} (he : (eqP P s T op i v1 j v2).eval = some v) :
    Runs P o a w (Sts C (s.put o.dst v)) := by
  unfold eqP at he
  split at he
  · rename_i v' fr c hob
    obtain ⟨h1, h2⟩ := eval_guard.1 he
    simp only [Bool.and_eq_true, beq_iff_eq, decide_eq_true_eq] at h1
    obtain ⟨⟨⟨rfl, rfl⟩, rfl⟩, hpt⟩ := h1
    have hent := obj_some hob
    have hvx := h.ev x
    have hvy := h.ev y
    rw [hx] at hvx
    rw [hy] at hvy
    obtain ⟨ad, hax, _, hc⟩ := ptr_of hvx
    obtain ⟨ad', hay, _, hc'⟩ := ptr_of hvy
    obtain ⟨pl, hp, rfl⟩ := hc ⟨fr, c, hent⟩
    obtain ⟨pl', hp', rfl⟩ := hc' ⟨fr, c, hent⟩
    rw [hp] at hp'
    obtain rfl : pl = pl' := by simpa using hp'
    have hT : ∃ t j, P.underlying T = some (.pointer t) ∧ P.info? t = some j := by
      unfold ptOk at hpt
      split at hpt
      · rename_i t ht
        obtain ⟨j, hj⟩ := Option.isSome_iff_exists.1 hpt
        exact ⟨t, j, ht, hj⟩
      · cases hpt
    obtain ⟨t, j, hT, hj⟩ := hT
    have hq : (Op.equal T (.pointer (some ⟨pl.b, 0, none⟩)) (.pointer (some ⟨pl.b, 0, none⟩))).run P w = .ok true w :=
      equal_run fun d => by simp [Op.equalIn, run_underlying hT, sizeOf, typeInfo, hj, run_sameAddr_same]
    have hgd : (eqGuard op T x y (a.eval x) (a.eval y)).run P w = .ok () w := by rw [hax, hay]; exact eqGuard_plain (by simp) rfl
    have fin : ∀ z, (binOp op T (a.eval x) (a.eval y)).run P w = .ok z w → VS (s.env w g β) v z → Runs P o a w (Sts C (s.put o.dst v)) := by
      intro z h1 h3
      refine h.value h3 ?_
      simp [execOp, ho, h1, hgd]
    split at h2
    · obtain rfl := eval_ok.1 h2
      refine fin (.bool true) ?_ (VS_bool true)
      rw [hax, hay]
      simp [binOp, hq]
    · obtain rfl := eval_ok.1 h2
      refine fin (.bool false) ?_ (VS_bool false)
      rw [hax, hay]
      simp [binOp, hq]
    · simp only [eval_fail] at h2
  · simp only [eval_fail] at he

theorem args1 {c : Call} {b : Builtin} {x : Operand} (hc : c.callee = .builtin b) (ha : c.args.toList = [x]) : c = { callee := .builtin b, args := #[x], argTypes := c.argTypes } := by
  obtain ⟨cal, args, tys⟩ := c
  simp only at hc ha
  have ha' : args = #[x] := by apply Array.ext'; simpa using ha
  subst hc ha'
  rfl
theorem args2 {c : Call} {b : Builtin} {x y : Operand} (hc : c.callee = .builtin b) (ha : c.args.toList = [x, y]) : c = { callee := .builtin b, args := #[x, y], argTypes := c.argTypes } := by
  obtain ⟨cal, args, tys⟩ := c
  simp only at hc ha
  have ha' : args = #[x, y] := by apply Array.ext'; simpa using ha
  subst hc ha'
  rfl
theorem tys1 {ts : Array TypeId} {T : TypeId} (h : ts.toList = [T]) : ts = #[T] := by apply Array.ext'; simpa using h
theorem tys2 {ts : Array TypeId} {T U : TypeId} (h : ts.toList = [T, U]) : ts = #[T, U] := by apply Array.ext'; simpa using h

theorem cap_runs (h : Inv C g β s a w) {c : Call} {x : Operand} {T e : TypeId} (ho : o.op = .call c) (hc : c.callee = .builtin .cap) (ha : c.args.toList = [x]) (ht : c.argTypes.toList = [T]) (hx : s.ev x = .nils) (hT : P.underlying T = some (.slice e)) :
    Runs P o a w (Sts C (s.put o.dst (.d (.int .i64) (0 : Int)))) := by
  rw [args1 hc ha, tys1 ht] at ho
  have hv := h.ev x
  rw [hx] at hv
  have hy := nils_of hv
  refine builtin_runs ho (F := fun ty xs => Builtin.cap_ #[T] ty xs) (fun ty cs xs => rfl) (x := .int .i64 0) (w' := w) (fun ty => ?_) ⟨g, β, h.put o.dst (VS_int _ _)⟩
  simp [Builtin.cap_, run_underlying hT, hy, goInt]

theorem slData_runs (h : Inv C g β s a w) {c : Call} {x : Operand} {id : Id} {ver len : Nat} (ho : o.op = .call c) (hc : c.callee = .builtin .unsafeSliceData) (ha : c.args.toList = [x]) (hx : s.ev x = .sref id ver [] 0 0 len) (hl : 0 < len) :
    Runs P o a w (Sts C (s.put o.dst (.ptr id ver [.idx 0] 0))) := by
  rw [args1 hc ha] at ho
  have hv := h.ev x
  rw [hx] at hv
  obtain ⟨ad, cap, hy, hcap, hs, hb, hcur⟩ := sref_of hv
  obtain ⟨ad, rfl⟩ := Option.isSome_iff_exists.1 (hs hl)
  refine builtin_runs ho (F := fun ty xs => Builtin.unsafeSliceData_ c.argTypes ty xs) (fun ty cs xs => rfl) (x := .pointer (some ad)) (w' := w) (fun ty => ?_) ⟨g, β, h.put o.dst ?_⟩
  · rw [show (#[x].map a.eval) = #[a.eval x] by simp, hy]
    exact Go.Lib.run_unsafeSliceData_row w _ _ _ _ _ (by omega)
  · refine ⟨[.pointer (some ad)], ?_, rfl⟩
    simp only [V]
    refine ⟨ad, rfl, hb, fun hc => ?_⟩
    have h1 := hcur hc
    cases hp : (s.env w g β).β id with
    | none => rw [hp] at h1; simp only at h1; cases h1.1
    | some pl =>
      rw [hp] at h1
      simp only at h1
      exact ⟨pl, rfl, by simpa using h1.1 (.inl hl)⟩

theorem min_runs (h : Inv C g β s a w) {c : Call} {mx : Bool} (ho : o.op = .call c) (hc : c.callee = .builtin (if mx then .max else .min)) {v : AVal} (he : (minA mx (c.args.toList.map s.ev)).eval = some v) : Runs P o a w (Sts C (s.put o.dst v)) := by
  unfold minA at he
  split at he
  · rename_i k x k' y hxy
    obtain ⟨h1, h2⟩ := eval_guard.1 he
    obtain rfl := eval_ok.1 h2
    have h1 : k = k' := by simpa using h1
    subst h1
    have hal : ∃ p q, c.args.toList = [p, q] ∧ s.ev p = .d (.int k) x ∧ s.ev q = .d (.int k) y := by
      match hh : c.args.toList, hxy with
      | [p, q], hxy => simp only [List.map_cons, List.map_nil, List.cons.injEq] at hxy; exact ⟨p, q, rfl, hxy.1, hxy.2.1⟩
      | [], hxy => simp at hxy
      | [_], hxy => simp at hxy
      | _ :: _ :: _ :: _, hxy => simp at hxy
    obtain ⟨p, q, ha, hp, hq⟩ := hal
    rw [args2 hc ha] at ho
    have hvp := h.ev p
    have hvq := h.ev q
    rw [hp] at hvp
    rw [hq] at hvq
    have ep := int_of hvp
    have eq := int_of hvq
    cases mx with
    | true =>
      refine builtin_runs ho (F := fun ty xs => Builtin.max_ c.argTypes ty xs) (fun ty cs xs => rfl) (x := .int k (if x < y then y else x)) (w' := w) (fun ty => ?_) ⟨g, β, h.put o.dst (VS_int _ _)⟩
      rw [show (#[p, q].map a.eval) = #[a.eval p, a.eval q] by simp, ep, eq]
      simp [Builtin.max_, Builtin.max2]
    | false =>
      refine builtin_runs ho (F := fun ty xs => Builtin.min_ c.argTypes ty xs) (fun ty cs xs => rfl) (x := .int k (if y < x then y else x)) (w' := w) (fun ty => ?_) ⟨g, β, h.put o.dst (VS_int _ _)⟩
      rw [show (#[p, q].map a.eval) = #[a.eval p, a.eval q] by simp, ep, eq]
      simp [Builtin.min_, Builtin.min2]
  · simp only [eval_fail] at he

theorem zeroCells_made (z : Array Value) (n : Nat) : Builtin.zeroCells z n = madeCells z (n * z.size) := rfl

theorem grow_runs (h : Inv C g β s a w) {c : Call} {x y : Operand} {T X : TypeId} {k : IntKind} {n : Int} (ho : o.op = .call c) (hc : c.callee = .builtin .append) (ha : c.args.toList = [x, y]) (ht : c.argTypes.toList = [T, X]) (hx : s.ev x = .nils) (hy : s.ev y = .d (.int k) n) {s' : AS}
    (he : (growA P s o.dst T X n).eval = some s') : Runs P o a w (Sts C s') := by
  rw [args2 hc ha, tys2 ht] at ho
  have hvx := h.ev x
  have hvy := h.ev y
  rw [hx] at hvx
  rw [hy] at hvy
  have ex := nils_of hvx
  have ey := int_of hvy
  unfold growA at he
  split at he
  · rename_i e t b q kn hel hd hX
    obtain ⟨hT, hz, i, zv, hi, his, hib, hzv, hzr⟩ := elemOfT_sound hel
    obtain ⟨hq, h2⟩ := eval_guard.1 he
    obtain ⟨h3, h4⟩ := eval_chk.1 h2
    obtain rfl := eval_ok.1 h4
    simp only [Bool.and_eq_true, decide_eq_true_eq, roomA] at h3
    obtain ⟨h5, h7, h8⟩ := h3
    obtain ⟨m, rfl⟩ := Int.eq_ofNat_of_zero_le (Int.le_of_lt h5)
    simp only [Int.toNat_natCast] at h7 h8 ⊢
    have hzc : zv.cells.size = t.size := by have := (hzr (s.env w g β)).size; simpa using this
    have hr := fun ty => Go.Lib.run_append_nil_zeros (P := P) w T X ty e i zv k kn hT hX hi hzv m (by omega) (by rw [his]; exact hz) (by omega) (by rw [hib]; omega)
    obtain ⟨cap, hcap⟩ : ∃ cap, grownCap w m 0 e = cap := ⟨_, rfl⟩
    have c1 : m ≤ cap := by rw [← hcap]; exact grownCap_ge _ _ _ _
    have c2 : cap ≤ maxLen := by rw [← hcap]; exact grownCap_le_maxLen _ _ _ _ (by unfold maxLen; omega)
    rw [hcap] at hr
    obtain ⟨cur, hcur⟩ : ∃ cur, Builtin.zeroCells zv.cells m ++ Builtin.zeroCells zv.cells (cap - m) = cur := ⟨_, rfl⟩
    rw [hcur] at hr
    have s1 : cur.size = cap * t.size := by
      rw [← hcur, Array.size_append, zeroCells_size, zeroCells_size, hzc, ← Nat.add_mul]
      congr 1
      omega
    have hall := range_zero_chunks (hzr (s.env w.drew g β)) m
    have s2 : cur.toList.take (m * t.size) = (madeCells zv.cells (m * t.size)).toList := by
      rw [← hcur, Array.toList_append, zeroCells_made, hzc]
      have hl : (madeCells zv.cells (m * t.size)).toList.length = m * t.size := by simp [size_madeCells]
      rw [List.take_append_of_le_length (by omega), List.take_of_length_le (by omega)]
    obtain ⟨g2, β2, i2, hv2⟩ := (h.drew).newVec hq (e := e) (l := List.replicate m t.zero) (cur := cur) (cap := cap) hz (by rw [List.length_replicate, s2]; exact hall) s1 (by rw [List.length_replicate]; exact c1) c2
    rw [List.length_replicate] at hv2
    refine builtin_runs ho (F := fun ty xs => Builtin.append_ #[T, X] ty xs) (fun ty cs xs => rfl) (fun ty => ?_) ⟨g2, β2, i2.put o.dst hv2⟩
    rw [show (#[x, y].map a.eval) = #[a.eval x, a.eval y] by simp, ex, ey]
    exact hr ty
  · simp only [eval_fail] at he

theorem run_loadI : ∀ (xs : List Int) (a : Addr) (acc : ByteArray), (∀ j x, xs[j]? = some x → w.cell? (a.add j) = some (.int .u8 x)) →
    (loadBytes a acc xs.length).run P w = .ok ⟨acc.data ++ (xs.map fun n => UInt8.ofNat n.toNat).toArray⟩ w
  | [], a, acc, _ => by simp [loadBytes]
  | x :: l, a, acc, h => by
    have h0 : w.cell? a = some (.int .u8 x) := by
      have := h 0 x rfl
      simpa [Addr.add] using this
    have ih := run_loadI l (a.add 1) (acc.push x.toNat.toUInt8) (fun j y hy => by
      have := h (j + 1) y (by simpa using hy)
      have e : (a.add 1).add j = a.add (j + 1) := by
        unfold Addr.add
        by_cases hj : j = 0
        · subst hj; simp
        · simp [hj]; omega
      rw [e]; exact this)
    simp only [List.length_cons, loadBytes, Sem.run_bind, run_load, h0, Result.andThen]
    rw [ih]
    congr 1
    apply ByteArray.ext
    simp [ByteArray.push]

theorem text_runs (h : Inv C g β s a w) {c : Call} {x y : Operand} {T U : TypeId} {id : Id} {ver : Nat} {n : Int} (ho : o.op = .call c) (hc : c.callee = .builtin .unsafeString) (ha : c.args.toList = [x, y]) (ht : c.argTypes.toList = [T, U])
    (hx : s.ev x = .ptr id ver [.idx 0] 0) (hy : s.ev y = .d (.int .i64) n) {s' : AS} (he : (textA P s o.dst T id ver n).eval = some s') : Runs P o a w (Sts C s') := by
  rw [args2 hc ha, tys2 ht] at ho
  have hvx := h.ev x
  rw [hx] at hvx
  obtain ⟨ad, hax, _, hcp⟩ := ptr_of hvx
  have hvy := h.ev y
  rw [hy] at hvy
  have hay := int_of hvy
  unfold textA at he
  split at he
  · rename_i v e l u hob hT
    obtain ⟨h1, h2⟩ := eval_guard.1 he
    obtain ⟨h3, h4⟩ := eval_chk.1 h2
    obtain rfl := eval_ok.1 h4
    simp only [Bool.and_eq_true, beq_iff_eq] at h1
    obtain ⟨⟨rfl, rfl⟩, hce⟩ := h1
    simp only [decide_eq_true_eq] at h3
    obtain ⟨h5, h6⟩ := h3
    obtain ⟨n, rfl⟩ := Int.eq_ofNat_of_zero_le (Int.le_of_lt h5)
    have h6 : n ≤ (l : List Int).length := by omega
    have hent := obj_some hob
    obtain ⟨pl, hp, rfl⟩ := hcp ⟨false, _, hent⟩
    have hp : β id = some pl := hp
    have hO : ObjR (s.env w g β) id false (.vec u (.int .u8) l) := h.objs id v false _ hent
    obtain ⟨hz, hO⟩ := hO
    have hO : (match β id with
      | none => l = []
      | some pl => ∃ cur k, w.heap[pl.b]? = some (.cells cur u (0, 0)) ∧ cur.size = pl.cap * (Ty.int .u8).size ∧ (l : List Int).length ≤ pl.cap ∧ pl.cap ≤ maxLen ∧ g pl.b = .own (.id id) k ∧
          k ≤ (l : List Int).length * (Ty.int .u8).size ∧ (false = false → k = 0) ∧ Chunks (Rep (s.env w g β) (.int .u8)) (cur.toList.take ((l : List Int).length * (Ty.int .u8).size)) l) := hO
    rw [hp] at hO
    obtain ⟨cur, k, q1, q2, q3, q4, q5, q6, q7, q8⟩ := hO
    have hk := q7 rfl
    subst hk
    have hone : (Ty.int .u8).size = 1 := rfl
    rw [hone, Nat.mul_one] at q2 q8
    have hvs := chunks_ints q8
    have hsh : w.shape? pl.b = some (u, cur.size) := by simp only [World.shape?, q1]
    have hcell : ∀ j z, ((l : List Int).take n)[j]? = some z → w.cell? ((⟨pl.b, 0, none⟩ : Addr).add j) = some (.int .u8 z) := fun j z hj => by
      rw [List.getElem?_take] at hj
      split at hj
      · rename_i hjn
        have hjl : j < (l : List Int).length := by omega
        rw [Addr.add_lit, Nat.zero_add]
        simp only [World.cell?, q1]
        have : (cur.toList.take (l : List Int).length)[j]? = some (.int .u8 z) := by rw [hvs, List.getElem?_map, hj]; rfl
        rw [List.getElem?_take, if_pos hjl] at this
        simpa using this
      · cases hj
    have hlen : ((l : List Int).take n).length = n := by rw [List.length_take]; omega
    have hlb := run_loadI (P := P) (w := w) ((l : List Int).take n) ⟨pl.b, 0, none⟩ .empty hcell
    rw [hlen] at hlb
    have hlies := Go.Lib.liesAt_bytes (P := P) (e := u) (by simpa using hce) (cur.size / P.cellsOf u) n (by
      rw [show P.cellsOf u = 1 by simpa using hce, Nat.div_one]; omega)
    have hfz : ∃ w', w.freeze ⟨pl.b, 0, none⟩ n = w' ∧ w'.os = w.os ∧ w'.tape = w.tape ∧ w'.output = w.output ∧ w'.heap.size = w.heap.size ∧ ∀ b', b' ≠ pl.b → w'.heap[b']? = w.heap[b']? := by
      refine ⟨_, rfl, ?_⟩
      unfold World.freeze
      rw [if_neg (by omega)]
      refine ⟨rfl, rfl, rfl, by simp, fun b' hb' => ?_⟩
      simp only [Array.getElem?_modify]
      rw [if_neg (fun e => hb' e.symm)]
    obtain ⟨w', hw', f1, f2, f3, f4, f5⟩ := hfz
    have i1 := h.kill hent q5 f1 f2 f3 f4 f5
    have h63 : ¬ (9223372036854775807 : Int) < (n : Int) := by unfold maxLen at q4; omega
    have hneg : ¬ (n : Int) < 0 := by omega
    have hn0 : n ≠ 0 := by omega
    have hmax : IntKind.i64.max = 9223372036854775807 := rfl
    refine builtin_runs ho (F := fun ty xs => Builtin.unsafeString_ #[T, U] ty xs) (fun ty cs xs => rfl) (x := .string (strOfBytes ((l : List Int).take n))) (w' := w') (fun ty => ?_) ⟨_, β, i1.put o.dst ⟨[.string (strOfBytes ((l : List Int).take n))], by simp only [V, Rep]; rfl, rfl⟩⟩
    rw [show (#[x, y].map a.eval) = #[a.eval x, a.eval y] by simp, hax, hay]
    have hdef : Builtin.unsafeString_ #[T, U] ty #[.pointer (some ⟨pl.b, 0, none⟩), .int .i64 n] =
        (do
          let n ← Go.asInt (.int .i64 n)
          if n < 0 then runtimePanic (.error "unsafe.String: len out of range")
          if n > IntKind.i64.max then unsupported (.unsafePointer "String: a length above the largest int")
          if n = 0 then pure (.string .empty)
          else if ← variablesAt ⟨pl.b, 0, none⟩ (← elemOf T) n.toNat then do
            let s ← loadBytes ⟨pl.b, 0, none⟩ .empty n.toNat
            freeze ⟨pl.b, 0, none⟩ n.toNat
            pure (.string s)
          else unsupported (.unsafePointer "String: not so many bytes at ptr")) := rfl
    rw [hdef]
    simp [Go.asInt, asIntOf, hmax, h63, hneg, hn0, variablesAt, hsh, elemOf, run_underlying hT, hlies, hlb, hw', strOfBytes]
  · simp only [eval_fail] at he

end
end Go.Ab

/-
  Every operation of the abstract machine is sound.
-/
namespace Go.Ab

section
variable {P : Program} {C : Ctx} {g : Nat → Lab} {β : Id → Option Pl} {s : AS} {a : Act} {w : World} {o : Oper}

theorem aop_runs {Γ : Gam} (hΓ : Sound P Γ) {objs : List Nat} (h : Inv C g β s a w) {s' : AS} (he : (aop P Γ objs o s).eval = some s') : Runs P o a w (Sts C s') := by
  unfold aop at he
  split at he
  · rename_i x hop
    obtain rfl := eval_ok.1 he
    exact move_runs h (.inl hop)
  · rename_i x hop
    obtain rfl := eval_ok.1 he
    exact move_runs h (.inr hop)
  · rename_i c x y hop
    obtain ⟨v, h1, h2⟩ := eval_bind.1 he
    obtain rfl := eval_ok.1 h2
    exact pick_runs h hop h1
  · rename_i T hop
    split at he
    · rename_i z q hz hq
      obtain ⟨h1, h2⟩ := eval_guard.1 he
      obtain rfl := eval_ok.1 h2
      simp only [Bool.and_eq_true] at h1
      exact alloc_runs h hop h1.1 h1.2
    · exact (eval_fail.1 he).elim
  · rename_i T x hop
    exact box_runs h hop he
  · rename_i T parts hop
    exact build_runs h hop he
  · rename_i T n parts hop
    exact buildSlice_runs h hop he
  · rename_i T x hop
    obtain ⟨v, h1, h2⟩ := eval_bind.1 he
    obtain rfl := eval_ok.1 h2
    exact load_runs h hop h1
  · rename_i T x v hop
    obtain ⟨v, h1, h2⟩ := eval_bind.1 he
    obtain rfl := eval_ok.1 h2
    exact store_runs h hop h1
  · rename_i x hop
    exact nilCheck_runs h hop he
  · rename_i op T x y U hop
    split at he
    · rename_i i v1 j v2 hx hy
      obtain ⟨v, h1, h2⟩ := eval_bind.1 he
      obtain rfl := eval_ok.1 h2
      exact eqP_runs h hop hx hy h1
    · obtain ⟨v, h1, h2⟩ := eval_bind.1 he
      obtain rfl := eval_ok.1 h2
      exact binOp_runs h hop h1
  · rename_i op T x hop
    obtain ⟨v, h1, h2⟩ := eval_bind.1 he
    obtain rfl := eval_ok.1 h2
    exact unOp_runs h hop h1
  · rename_i T U x hop
    split at he
    · rename_i id ver len hTU hx
      exact convK_runs h hop hx he
    · rename_i id ver hx
      obtain ⟨v, h1, h2⟩ := eval_bind.1 he
      obtain rfl := eval_ok.1 h2
      exact convP_runs h hop hx h1
    · obtain ⟨v, h1, h2⟩ := eval_bind.1 he
      obtain rfl := eval_ok.1 h2
      exact convert_runs h hop h1
  · rename_i T x hop
    exact toArr_runs h hop he
  · rename_i f first caps hop
    obtain ⟨h1, h2⟩ := eval_guard.1 he
    obtain rfl := eval_ok.1 h2
    simp only [Bool.and_eq_true] at h1
    exact makeFunc_runs h hop h1.1 h1.2
  · rename_i T l c hop
    obtain ⟨n, h1, h2⟩ := eval_bind.1 he
    obtain ⟨m, h3, h4⟩ := eval_bind.1 h2
    exact makeSlice_runs h hop h1 h3 h4
  · rename_i T x lo hi hop
    obtain ⟨v, h1, h2⟩ := eval_bind.1 he
    obtain rfl := eval_ok.1 h2
    exact slice_runs h hop h1
  · rename_i T x f hop
    obtain ⟨v, h1, h2⟩ := eval_bind.1 he
    obtain rfl := eval_ok.1 h2
    exact fieldAddr_runs h hop h1
  · rename_i T x f hop
    obtain ⟨v, h1, h2⟩ := eval_bind.1 he
    obtain rfl := eval_ok.1 h2
    exact field_runs h hop h1
  · rename_i T x i hop
    obtain ⟨n, h0, he⟩ := eval_bind.1 he
    obtain ⟨v, h1, h2⟩ := eval_bind.1 he
    obtain rfl := eval_ok.1 h2
    exact indexAddr_runs h hop h0 h1
  · rename_i T x i hop
    obtain ⟨n, h0, he⟩ := eval_bind.1 he
    obtain ⟨v, h1, h2⟩ := eval_bind.1 he
    obtain rfl := eval_ok.1 h2
    exact index_runs h hop h0 h1
  · rename_i x i hop
    obtain ⟨v, h1, h2⟩ := eval_bind.1 he
    obtain rfl := eval_ok.1 h2
    exact extract_runs h hop h1
  · rename_i c hop
    split at he
    · rename_i hc
      split at he
      · rename_i x T ha ht
        obtain ⟨v, h1, h2⟩ := eval_bind.1 he
        obtain rfl := eval_ok.1 h2
        exact len_runs h hop hc ha ht h1
      · exact (eval_fail.1 he).elim
    · rename_i hc
      split at he
      · rename_i x y T X ha ht
        split at he
        · rename_i k n hx hy
          exact grow_runs h hop hc ha ht hx hy he
        · exact append_runs h hop hc ha ht he
      · exact (eval_fail.1 he).elim
    · rename_i hc
      split at he
      · rename_i x T ha ht
        split at he
        · rename_i e hx hT
          obtain rfl := eval_ok.1 he
          exact cap_runs h hop hc ha ht hx hT
        · exact (eval_fail.1 he).elim
      · exact (eval_fail.1 he).elim
    · rename_i hc
      obtain ⟨v, h1, h2⟩ := eval_bind.1 he
      obtain rfl := eval_ok.1 h2
      exact min_runs (mx := true) h hop hc h1
    · rename_i hc
      obtain ⟨v, h1, h2⟩ := eval_bind.1 he
      obtain rfl := eval_ok.1 h2
      exact min_runs (mx := false) h hop hc h1
    · rename_i hc
      split at he
      · rename_i x ha
        split at he
        · rename_i id ver len hx
          obtain ⟨h1, h2⟩ := eval_chk.1 he
          obtain rfl := eval_ok.1 h2
          exact slData_runs h hop hc ha hx (by simpa using h1)
        · exact (eval_fail.1 he).elim
      · exact (eval_fail.1 he).elim
    · rename_i hc
      split at he
      · rename_i x y T U ha ht
        split at he
        · rename_i id ver n hx hy
          exact text_runs h hop hc ha ht hx hy he
        · exact (eval_fail.1 he).elim
      · exact (eval_fail.1 he).elim
    · rename_i F hc
      split at he
      · rename_i f caps hF
        split at he
        · rename_i en hen
          exact call_runs h hop hc hF (hΓ f _ en hen) he
        · exact (eval_fail.1 he).elim
      · exact (eval_fail.1 he).elim
    · exact (eval_fail.1 he).elim
  · exact (eval_fail.1 he).elim

end
end Go.Ab

/-
  One operation of a region, with its guard.
-/
namespace Go.Ab

def StepK (P : Program) (ops : Array Oper) (o : Oper) (a : Act) (w : World) (K : Act → World → Prop) : Prop :=
  if Region.wanted o (yielded ops a.tmps) then Runs P o a w K else K (a.put o.dst undef) w

theorem StepK.mono {P : Program} {ops : Array Oper} {o : Oper} {a : Act} {w : World} {K K' : Act → World → Prop} (h : StepK P ops o a w K) (hk : ∀ a w, K a w → K' a w) : StepK P ops o a w K' := by
  unfold StepK at *
  split
  · rename_i hw; rw [if_pos hw] at h; exact h.mono hk
  · rename_i hw; rw [if_neg hw] at h; exact hk _ _ h

/-- Something comes of it. -/
theorem Runs.some {P : Program} {o : Oper} {a : Act} {w : World} {K : Act → World → Prop} (h : Runs P o a w K) : ∃ a' w', K a' w' := by
  rcases h with ⟨x, w', _, h⟩ | ⟨w', _, h⟩ | ⟨f, args, w', _, h⟩
  · exact ⟨_, _, h⟩
  · exact ⟨_, _, h⟩
  · obtain ⟨e, w'', _, ⟨x, _, hx⟩, _⟩ := h []
    exact ⟨_, _, hx⟩

theorem StepK.some {P : Program} {ops : Array Oper} {o : Oper} {a : Act} {w : World} {K : Act → World → Prop} (h : StepK P ops o a w K) : ∃ a' w', K a' w' := by
  unfold StepK at h
  split at h
  · exact h.some
  · exact ⟨_, _, h⟩

theorem StepK.wpList {P : Program} {ops : Array Oper} {o : Oper} {a : Act} {w : World} {Q : Exit → Act → World → Prop} {l : List Oper} (h : StepK P ops o a w (wpList P ops Q l)) : Go.wpList P ops Q (o :: l) a w := by
  unfold StepK at h
  unfold Go.wpList
  split
  · rename_i hw; rw [if_pos hw] at h; exact .inl h.wp
  · rename_i hw; rw [if_neg hw] at h; exact h

theorem StepK.wpOp {P : Program} {ops : Array Oper} {o : Oper} {i : Nat} {a : Act} {w : World} {Q : Exit → Act → World → Prop} {K : Act → World → Prop} (ho : ops[i]? = Option.some o) (h : StepK P ops o a w K) : Go.wpOp P ops Q i K a w := by
  unfold StepK at h
  unfold Go.wpOp
  simp only [ho]
  split
  · rename_i hw; rw [if_pos hw] at h; exact .inl h.wp
  · rename_i hw; rw [if_neg hw] at h; exact h

theorem put_same {s : AS} {q : Nat} {v : AVal} (h : s.slot q = v) (hq : q < s.slots.length) : s.put (some q) v = s := by
  have hv : s.slots[q] = v := by simpa [AS.slot, List.getD_eq_getElem?_getD, hq] using h
  simp only [AS.put]
  rw [← hv, List.set_getElem_self]

theorem slot_lt {s : AS} {q : Nat} {t : Ty} {x : t.den} (h : s.slot q = .d t x) : q < s.slots.length := by
  rcases Nat.lt_or_ge q s.slots.length with h' | h'
  · exact h'
  · simp [AS.slot, List.getD_eq_getElem?_getD, List.getElem?_eq_none h'] at h

/-- One operation, directly. -/
def gop1 (P : Program) (Γ : Gam) (objs : List Nat) (ops : Array Oper) (o : Oper) (s : AS) : Option AS :=
  match o.guard with
  | none => (aop P Γ objs o s).eval
  | some (j, want) => match (ops[j]?).bind (·.dst) with
    | some q => match s.slot q with
      | .d .bool b => if b = want then (aop P Γ objs o s).eval else some (s.put o.dst .nil)
      | .nil => some (s.put o.dst .nil)
      | _ => none
    | none => none

theorem gop_some {R : Type} {P : Program} {Γ : Gam} {objs : List Nat} {ops : Array Oper} {o : Oper} {s : AS} {k : AS → Option R} {r : R} (h : gop P Γ objs ops o s k = some r) : ∃ s', gop1 P Γ objs ops o s = some s' ∧ k s' = some r := by
  unfold gop at h
  unfold gop1
  split at h
  · rename_i hg
    simp only [hg]
    exact run_some.1 h
  · rename_i j want hg
    simp only [hg]
    split at h
    · rename_i q hq
      simp only [hq]
      split at h
      · rename_i b hb
        have e := put_same hb (slot_lt hb)
        simp only [hb]
        cases want <;> cases b <;> simp only [sel] at h <;> rw [e] at h
        · obtain ⟨s', h1, h2⟩ := run_some.1 h
          exact ⟨s', by simpa using h1, h2⟩
        · exact ⟨_, by simp, h⟩
        · exact ⟨_, by simp, h⟩
        · obtain ⟨s', h1, h2⟩ := run_some.1 h
          exact ⟨s', by simpa using h1, h2⟩
      · rename_i hb
        simp only [hb]
        exact ⟨_, rfl, h⟩
      · cases h
    · cases h

section
variable {P : Program} {C : Ctx} {g : Nat → Lab} {β : Id → Option Pl} {s : AS} {a : Act} {w : World} {o : Oper}

theorem yielded_of (h : Inv C g β s a w) {ops : Array Oper} {j q : Nat} {b : Bool} (hq : (ops[j]?).bind (·.dst) = some q) (hb : s.slot q = .d .bool b) : yielded ops a.tmps j = some b := by
  have hv := h.slots q
  rw [hb] at hv
  have hv := bool_of hv
  have hl := slot_lt hb
  rw [← h.size] at hl
  unfold yielded
  rw [hq, Option.bind_some]
  have : a.tmps[q]? = some (.bool b) := by
    rw [Array.getElem?_eq_getElem hl]
    simpa [Array.getD, hl] using hv
  rw [this]

theorem yielded_not (h : Inv C g β s a w) {ops : Array Oper} {j q : Nat} (hq : (ops[j]?).bind (·.dst) = some q) (hb : s.slot q = .nil) : yielded ops a.tmps j = none := by
  have hv := h.slots q
  rw [hb] at hv
  have hv : a.tmps.getD q undef = .tuple #[] := hv
  unfold yielded
  rw [hq, Option.bind_some]
  split
  · rename_i b hb
    rw [Array.getD_eq_getD_getElem?, hb] at hv
    cases hv
  · rfl

theorem gop1_runs {Γ : Gam} (hΓ : Sound P Γ) {objs : List Nat} {ops : Array Oper} (h : Sts C s a w) {s' : AS} (he : gop1 P Γ objs ops o s = some s') : StepK P ops o a w (Sts C s') := by
  obtain ⟨g, β, h⟩ := h
  unfold gop1 at he
  unfold StepK
  split at he
  · rename_i hg
    have : Region.wanted o (yielded ops a.tmps) = true := by simp [Region.wanted, hg]
    rw [if_pos this]
    exact aop_runs hΓ h he
  · rename_i j want hg
    split at he
    · rename_i q hq
      split at he
      · rename_i b hb
        have hy := yielded_of h hq hb
        have hw : Region.wanted o (yielded ops a.tmps) = (b == want) := by simp [Region.wanted, hg, hy]
        rw [hw]
        by_cases e : b = want
        · rw [if_pos e] at he
          rw [if_pos (by simp [e])]
          exact aop_runs hΓ h he
        · rw [if_neg e] at he
          rw [if_neg (by simp [e])]
          simp only [Option.some.injEq] at he
          subst he
          exact ⟨g, β, h.put o.dst rfl⟩
      · rename_i hb
        have hy := yielded_not h hq hb
        have hw : Region.wanted o (yielded ops a.tmps) = false := by simp [Region.wanted, hg, hy]
        rw [hw, if_neg (by simp)]
        simp only [Option.some.injEq] at he
        subst he
        exact ⟨g, β, h.put o.dst rfl⟩
      · cases he
    · cases he

theorem nd_some {R : Type} {x y : Option R} {r : R} (h : nd x y = some r) : x = some r ∧ y = some r := by
  unfold nd at h
  split at h
  · rename_i e; exact ⟨h, e ▸ h⟩
  · cases h

theorem nilArg_run (h : Inv C g β s a w) {x y : Operand} {n : Nat} (hn : nilArg s x y = some n) {T : TypeId} (hT : eqOp.isSl P T = true) : ∃ b, (0 < n → b = false) ∧ (Op.equal T (a.eval x) (a.eval y)).run P w = .ok b w ∧
    isAggV (a.eval x) = false ∧ a.eval x ≠ .nilIface ∧ ∀ op, binOp op T (a.eval x) (a.eval y) = (match op with | .eql => do pure (.bool (← Op.equal T (a.eval x) (a.eval y))) | .neq => do pure (.bool (!(← Op.equal T (a.eval x) (a.eval y)))) | _ => binOp op T (a.eval x) (a.eval y)) := by
  have hx := h.ev x
  have hy := h.ev y
  unfold eqOp.isSl at hT
  split at hT <;> try (cases hT; done)
  rename_i e hU
  unfold nilArg at hn
  split at hn
  · rename_i t l h1 h2
    rw [h1] at hx; rw [h2] at hy
    obtain ⟨ad, cap, vs, hv, _, hs, _⟩ := slice_of hx
    have hv2 := nils_of hy
    rw [hv, hv2]
    refine ⟨ad.isNone, fun hp => ?_, ?_, rfl, by simp, fun op => by cases op <;> rfl⟩
    · obtain rfl := Option.some.inj hn
      obtain ⟨ad', rfl⟩ := Option.isSome_iff_exists.1 (hs hp)
      rfl
    · cases ad with
      | none => exact equal_run fun d => by simp [Op.equalIn, run_underlying hU]
      | some ad => exact equal_run fun d => by simp [Op.equalIn, run_underlying hU]
  · rename_i t l h1 h2
    rw [h1] at hx; rw [h2] at hy
    obtain ⟨ad, cap, vs, hv, _, hs, _⟩ := slice_of hy
    have hv2 := nils_of hx
    rw [hv, hv2]
    refine ⟨ad.isNone, fun hp => ?_, ?_, rfl, by simp, fun op => by cases op <;> rfl⟩
    · obtain rfl := Option.some.inj hn
      obtain ⟨ad', rfl⟩ := Option.isSome_iff_exists.1 (hs hp)
      rfl
    · exact equal_run fun d => by simp [Op.equalIn, run_underlying hU]
  · cases hn

theorem nilTest_runs (h : Inv C g β s a w) {x y : Operand} {n : Nat} {T U : TypeId} (hn : nilArg s x y = some n) (hT : eqOp.isSl P T = true) :
    (o.op = .binOp .eql T x y U → ∃ b, (0 < n → b = false) ∧ Runs P o a w (Sts C (s.put o.dst (.d .bool b)))) ∧ (o.op = .binOp .neq T x y U → ∃ b, (0 < n → b = true) ∧ Runs P o a w (Sts C (s.put o.dst (.d .bool b)))) := by
  obtain ⟨b, h1, h2, h3, h4, h5⟩ := nilArg_run (w := w) h hn hT
  have hg : ∀ op, (eqGuard op T x y (a.eval x) (a.eval y)).run P w = .ok () w := fun op => eqGuard_plain h4 h3
  refine ⟨fun ho => ⟨b, h1, h.value (VS_bool b) ?_⟩, fun ho => ⟨!b, fun hp => by rw [h1 hp]; rfl, h.value (VS_bool (!b)) ?_⟩⟩
  · have h6 : (binOp .eql T (a.eval x) (a.eval y)).run P w = .ok (.bool b) w := by rw [h5 .eql]; simp [h2]
    simp [execOp, ho, hg, h6]
  · have h6 : (binOp .neq T (a.eval x) (a.eval y)).run P w = .ok (.bool (!b)) w := by rw [h5 .neq]; simp [h2]
    simp [execOp, ho, hg, h6]

theorem sel_some {R : Type} {c : Bool} {x y : Option R} {r : R} (h : sel c x y = some r) : (c = true ∧ x = some r) ∨ (c = false ∧ y = some r) := by
  cases c
  · exact .inr ⟨rfl, h⟩
  · exact .inl ⟨rfl, h⟩

theorem gopN_runs {Γ : Gam} (hΓ : Sound P Γ) {objs : List Nat} {ops : Array Oper} {R : Type} {k : AS → Option R} {r : R} (h : Sts C s a w) (he : gopN P Γ objs ops o s k = some r) :
    StepK P ops o a w fun a' w' => ∃ s', Sts C s' a' w' ∧ k s' = some r := by
  have plain : gop P Γ objs ops o s k = some r → StepK P ops o a w fun a' w' => ∃ s', Sts C s' a' w' ∧ k s' = some r := fun he => by
    obtain ⟨s1, h1, h2⟩ := gop_some he
    exact (gop1_runs hΓ h h1).mono fun a' w' hs => ⟨s1, hs, h2⟩
  have step : ∀ (hg : o.guard = none) (b : Bool), Runs P o a w (Sts C (s.put o.dst (.d .bool b))) → k (s.put o.dst (.d .bool b)) = some r → StepK P ops o a w fun a' w' => ∃ s', Sts C s' a' w' ∧ k s' = some r := fun hg b hr hk => by
    unfold StepK
    have : Region.wanted o (yielded ops a.tmps) = true := by simp [Region.wanted, hg]
    rw [if_pos this]
    exact hr.mono fun a' w' hs => ⟨_, hs, hk⟩
  unfold gopN at he
  split at he
  · rename_i T x y U hg ho
    split at he
    · rename_i n hn hT
      obtain ⟨g, β, hi⟩ := h
      obtain ⟨b, hb, hr⟩ := (nilTest_runs (o := o) (U := U) hi hn hT).1 ho
      refine step hg b hr ?_
      rcases sel_some he with ⟨hc, hk⟩ | ⟨_, hk⟩
      · rw [hb (by simpa using hc)]; exact hk
      · obtain ⟨k1, k2⟩ := nd_some hk
        cases b
        · exact k2
        · exact k1
    · exact plain he
  · rename_i T x y U hg ho
    split at he
    · rename_i n hn hT
      obtain ⟨g, β, hi⟩ := h
      obtain ⟨b, hb, hr⟩ := (nilTest_runs (o := o) (U := U) hi hn hT).2 ho
      refine step hg b hr ?_
      rcases sel_some he with ⟨hc, hk⟩ | ⟨_, hk⟩
      · rw [hb (by simpa using hc)]; exact hk
      · obtain ⟨k1, k2⟩ := nd_some hk
        cases b
        · exact k2
        · exact k1
    · exact plain he
  · exact plain he

/-- A region in the order of its text. -/
theorem gops_wpList {Γ : Gam} (hΓ : Sound P Γ) {objs : List Nat} {ops : Array Oper} {R : Type} {Q : Exit → Act → World → Prop} : ∀ (l : List Oper) {s : AS} {a : Act} {w : World} {k : AS → Option R} {r : R}, Sts C s a w → gops P Γ objs ops l s k = some r →
    (∀ s' a' w', Sts C s' a' w' → k s' = some r → Q .normal a' w') → wpList P ops Q l a w
  | [], s, a, w, k, r, h, he, hk => hk s a w h he
  | o :: l, s, a, w, k, r, h, he, hk => by
    have he : gopN P Γ objs ops o s (fun s' => s'.seen fun s' => gops P Γ objs ops l s' k) = some r := he
    simp only [AS.seen_eq] at he
    exact ((gopN_runs hΓ h he).mono fun a' w' ⟨s', hs, h2⟩ => gops_wpList hΓ l hs h2 hk).wpList

end
end Go.Ab
