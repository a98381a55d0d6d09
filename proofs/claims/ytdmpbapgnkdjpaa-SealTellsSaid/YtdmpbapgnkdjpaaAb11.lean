/-
  Soundness of the operations, seventh part: lengths, conversions, composites, new slices, append.
-/
import Derived.Test.YtdmpbapgnkdjpaaAb10
namespace Go.Ab

section
variable {P : Program} {C : Ctx} {g : Nat → Lab} {β : Id → Option Pl} {s : AS} {a : Act} {w : World} {o : Oper}

theorem builtin_value {b : Builtin} {args : Array Operand} {ts : Array TypeId} {f : Sem Value} {x : Value} {w' : World} (ho : o.op = .call { callee := .builtin b, args, argTypes := ts })
    (hb : ∀ ty cs xs, xs = args.map a.eval → builtin b ts ty cs xs = (do pure (.value (← f)))) (hf : f.run P w = .ok x w') : (execOp a.eval o).run P w = .ok (.value x) w' := by
  simp only [execOp, ho, resolve, Sem.run_bind, Sem.run_pure, Result.andThen_ok, invoke]
  rw [hb _ _ _ rfl, Sem.run_bind, hf]
  rfl

theorem len_runs (h : Inv C g β s a w) {c : Call} {x : Operand} {T : TypeId} (ho : o.op = .call c) (hc : c.callee = .builtin .len) (ha : c.args.toList = [x]) (ht : c.argTypes.toList = [T]) {v : AVal} (he : (lenA P T (s.ev x)).eval = some v) :
    Runs P o a w (Sts C (s.put o.dst v)) := by
  obtain ⟨cal, args, tys⟩ := c
  simp only at hc ha ht
  have ha' : args = #[x] := by apply Array.ext'; simpa using ha
  have ht' : tys = #[T] := by apply Array.ext'; simpa using ht
  subst hc ha' ht'
  have hx := h.ev x
  have fin : ∀ z, (Builtin.len_ #[T] 0 #[a.eval x]).run P w = .ok z w → VS (s.env w g β) v z → Runs P o a w (Sts C (s.put o.dst v)) := by
    intro z h1 h2
    refine h.value h2 (builtin_value ho (f := Builtin.len_ #[T] 0 #[a.eval x]) (fun ty cs xs hxs => ?_) h1)
    subst hxs
    have e1 : Builtin.len_ #[T] 0 #[a.eval x] = Builtin.len_ #[T] ty #[a.eval x] := rfl
    rw [e1]
    simp [builtin]
  unfold lenA at he
  split at he
  · rename_i st hT hl
    rw [hl] at hx
    obtain rfl := eval_ok.1 he
    refine fin (.int .i64 (st.size : Int)) ?_ (VS_int _ _)
    rw [str_of hx]
    simp [Builtin.len_, run_underlying hT, goInt]
  · rename_i e t l hT hl
    rw [hl] at hx
    obtain rfl := eval_ok.1 he
    obtain ⟨ad, cap, vs, hy, _⟩ := slice_of hx
    refine fin (.int .i64 (l.length : Int)) ?_ (VS_int _ _)
    rw [hy]
    simp [Builtin.len_, run_underlying hT, goInt]
  · rename_i e hT hl
    rw [hl] at hx
    obtain rfl := eval_ok.1 he
    refine fin (.int .i64 0) ?_ (VS_int _ _)
    rw [nils_of hx]
    simp [Builtin.len_, run_underlying hT, goInt]
  · rename_i e id ver p c i len hT hl
    rw [hl] at hx
    obtain rfl := eval_ok.1 he
    obtain ⟨ad, cap, hy, _⟩ := sref_of hx
    refine fin (.int .i64 (len : Int)) ?_ (VS_int _ _)
    rw [hy]
    simp [Builtin.len_, run_underlying hT, goInt]
  · rename_i n e hT
    obtain rfl := eval_ok.1 he
    refine fin (.int .i64 (n : Int)) ?_ (VS_int _ _)
    simp [Builtin.len_, run_underlying hT, goInt]
  · simp only [eval_fail] at he

/-! ### Data that is only looked at now -/

def Env.open (E : Env) : Env := { E with g := fun _ => .free }

theorem open_le (E : Env) : EnvLe E E.open := ⟨⟨fun _ _ _ h => ⟨h.1, trivial⟩, fun _ _ _ h => ⟨rfl, h⟩⟩, fun _ _ h => h, fun _ _ _ h => ⟨h, rfl⟩⟩

theorem peek_sound (h : Inv C g β s a w) {v : AVal} {y : Value} (hv : VS (s.env w g β) v y) {t : Ty} {x : t.den} (ht : (s.peek t v).eval = some x) :
    ∃ cs, Rep (s.env w g β).open t cs x ∧ OfCells t.agg cs y := by
  obtain ⟨cs, hV, hO⟩ := hv.celled (toTy_celled ht)
  exact ⟨cs, toTy_rep rfl h.objs (open_le _) v t x cs hV ht (fun id _ v fr c _ pl _ j x hx _ => ⟨hx, trivial⟩), by rw [← toTy_agg ht]; exact hO⟩

theorem chunks_ints {E : Env} {k : IntKind} : ∀ {vs : List Value} {l : List Int}, Chunks (Rep E (.int k)) vs l → vs = l.map (Value.int k)
  | vs, [], h => h
  | _, x :: xs, ⟨c, cs', e, hx, hr⟩ => by
    have hx' : c = [Value.int k x] := by simpa only [Rep] using hx
    rw [e, hx', chunks_ints hr]
    rfl

theorem ints_chunks {E : Env} {k : IntKind} : ∀ (l : List Int), Chunks (Rep E (.int k)) (l.map (Value.int k)) l
  | [] => rfl
  | x :: xs => ⟨[.int k x], xs.map (Value.int k), rfl, by simp [Rep], ints_chunks xs⟩

theorem foldl_push (l : List Int) : ∀ b : ByteArray, l.foldl (fun r n => r.push (UInt8.ofNat n.toNat)) b = ⟨b.data ++ (l.map fun n => UInt8.ofNat n.toNat).toArray⟩ := by
  induction l with
  | nil => intro b; simp
  | cons n l ih =>
    intro b
    rw [List.foldl_cons, ih]
    simp [ByteArray.push]

theorem push_modify {α : Type} (xs : Array α) (x : α) (f : α → α) : (xs.push x).modify xs.size f = xs.push (f x) := by
  apply Array.ext_getElem?
  intro i
  rw [Array.getElem?_modify, Array.getElem?_push, Array.getElem?_push]
  by_cases h : i = xs.size
  · subst h; simp
  · have h' : ¬ xs.size = i := fun e => h e.symm
    simp [h, h']

theorem freeze_alloc (w : World) (c : Array Value) (e : TypeId) (n : Nat) : (w.alloc (.cells c e)).freeze ⟨w.heap.size, n, none⟩ 1 = w.alloc (.cells c e (n, n + 1)) := by
  show ({ w with heap := (w.heap.push (.cells c e)).modify w.heap.size _ } : World) = { w with heap := w.heap.push (.cells c e (n, n + 1)) }
  rw [push_modify]
  rfl

theorem freeze_same {w : World} {b : Nat} {c : Array Value} {e : TypeId} {n : Nat} (h : w.heap[b]? = some (.cells c e (n, n + 1))) : w.freeze ⟨b, n, none⟩ 1 = w := by
  unfold World.freeze
  rw [if_neg (by omega)]
  have : ∀ f : Obj → Obj, f (.cells c e (n, n + 1)) = .cells c e (n, n + 1) → w.heap.modify b f = w.heap := fun f hf => by
    apply Array.ext_getElem?
    intro i
    rw [Array.getElem?_modify]
    split
    · rename_i hi; subst hi; rw [h]; simp [hf]
    · rfl
  rw [this]
  simp

theorem run_stringToBytes (e : TypeId) (st : ByteArray) (w : World) : ∃ cap : Nat, st.size ≤ cap ∧ ∃ arr : Array Value, (∀ (j : Nat) (v : Value), ((bytesOfStr st).map (Value.int .u8))[j]? = some v → arr[j]? = some v) ∧
    (Conv.stringToBytes e st).run P w = .ok (.slice (some ⟨w.heap.size, 0, none⟩) st.size cap) (w.drew.alloc (.cells arr e (arr.size, arr.size + 1))) := by
  refine ⟨(Question.appendCap st.size 0 e).cut (w.tape w.drawn (.appendCap st.size 0 e)), by simp [Question.cut],
    (st.data.map fun b => Value.int .u8 b.toNat) ++ Array.replicate ((Question.appendCap st.size 0 e).cut (w.tape w.drawn (.appendCap st.size 0 e)) - st.size) (.int .u8 0), ?_, ?_⟩
  · intro j v hj
    have hl : j < st.data.size := by
      have := (List.getElem?_eq_some_iff.1 hj).1
      simpa [bytesOfStr] using this
    rw [Array.getElem?_append, if_pos (by simpa using hl)]
    simpa [bytesOfStr, hl] using hj
  · have hs : ∀ (arr : Array Value), (markStringish ⟨w.heap.size, 0, none⟩).run P (w.drew.alloc (.cells arr e)) = .ok () (w.drew.alloc (.cells arr e (arr.size, arr.size + 1))) := by
      intro arr
      have h1 : (w.drew.alloc (.cells arr e)).shape? w.heap.size = some (e, arr.size) := by
        have h2 : (w.drew.alloc (.cells arr e)).heap[w.heap.size]? = some (.cells arr e) := alloc_at w.drew _
        simp only [World.shape?, h2]
      have h3 := freeze_alloc w.drew arr e arr.size
      have h4 : w.drew.heap.size = w.heap.size := rfl
      rw [h4] at h3
      simp only [markStringish, Sem.run_bind, run_shape, h1, Result.andThen_ok, run_freeze, h3]
    simp [Conv.stringToBytes, Question.forced, newRow, hs]

theorem Inv.kill (h : Inv C g β s a w) {id : Id} {v : Nat} {fr : Bool} {c : AVal} (hs : s.ent id = some (.obj v fr c)) {b : Nat} (hg : g b = .own (.id id) 0) {w' : World} (hos : w'.os = w.os) (htp : w'.tape = w.tape) (hout : w'.output = w.output) (hsz : w'.heap.size = w.heap.size)
    (hoth : ∀ b', b' ≠ b → w'.heap[b']? = w.heap[b']?) : Inv C (upd1 g b .free) β (s.setEnt id .dead) a w' := by
  have ht : Trans w w' g (upd1 g b .free) := by
    refine ⟨hos, htp, hout, by omega, fun b' hb' => ?_⟩
    by_cases he : b' = b
    · subst he
      rw [hg, upd1_self]
      exact ⟨.inl rfl, fun _ _ hh => by omega⟩
    · rw [upd1_other _ _ _ he, hoth b' he]
      cases hgb : g b' with
      | free => exact ⟨rfl, rfl⟩
      | own o k => cases o with
        | foreign => exact ⟨rfl, rfl⟩
        | id i => exact ⟨.inr ⟨i, k, rfl, Nat.le_refl _⟩, fun off v _ hv => by simp only [World.cell?, hoth b' he] at hv ⊢; exact hv⟩
  have hself := ent_setEnt_self s id .dead (by rw [hs]; simp)
  have hle : EnvLe (s.env w g β) ((s.setEnt id .dead).env w' (upd1 g b .free) β) := by
    refine ⟨Trans.mem ht, fun i ver hb => ?_, fun i ver hb hc => ?_⟩
    · by_cases hi : i = id
      · subst hi
        exact ⟨by show (s.setEnt i .dead).ent i ≠ none; rw [hself]; simp, fun v fr c hh => by
          have hh : (s.setEnt i .dead).ent i = some (.obj v fr c) := hh
          rw [hself] at hh; cases hh⟩
      · have := ent_setEnt_other s id i .dead hi
        obtain ⟨h1, h2⟩ := hb
        exact ⟨by show (s.setEnt id .dead).ent i ≠ none; rw [this]; exact h1, fun v fr c hh => h2 v fr c (this.symm.trans hh)⟩
    · obtain ⟨fr, c, hc⟩ := hc
      have hc : (s.setEnt id .dead).ent i = some (.obj ver fr c) := hc
      by_cases hi : i = id
      · subst hi; rw [hself] at hc; cases hc
      · rw [ent_setEnt_other s id i .dead hi] at hc
        exact ⟨⟨fr, c, hc⟩, rfl⟩
  refine h.step (slots_setEnt _ _ _) ht hle fun i ver fr c hi => ?_
  have hi : (s.setEnt id .dead).ent i = some (.obj ver fr c) := hi
  by_cases hid : i = id
  · subst hid; rw [hself] at hi; cases hi
  · rw [ent_setEnt_other s id i .dead hid] at hi
    refine (h.objs i ver fr c hi).mono hle rfl fun pl hp => ?_
    have hne := h.apart hg hid hi (pl := pl) hp
    exact ⟨hoth pl.b hne, upd1_other _ _ _ hne⟩

theorem convK_runs (h : Inv C g β s a w) {src dst : TypeId} {x : Operand} (ho : o.op = .convert src dst x) {id : Id} {ver len : Nat} (hx : s.ev x = .sref id ver [] 0 0 len) {s' : AS} (he : (convK P s o.dst src dst id ver len).eval = some s') : Runs P o a w (Sts C s') := by
  unfold convK at he
  split at he
  · rename_i v e0 l e hob hD
    split at he
    · rename_i hE
      obtain ⟨h1, h2⟩ := eval_guard.1 he
      obtain ⟨h3, h4⟩ := eval_chk.1 h2
      obtain rfl := eval_ok.1 h4
      simp only [Bool.and_eq_true, beq_iff_eq] at h1
      obtain ⟨rfl, rfl⟩ := h1
      simp only [decide_eq_true_eq] at h3
      obtain ⟨h5, h6⟩ := h3
      have hent := obj_some hob
      have hv := h.ev x
      rw [hx] at hv
      obtain ⟨ad, cap, hy, hcap, _, _, hcur⟩ := sref_of hv
      have hcur := hcur ⟨false, _, hent⟩
      have hO : ObjR (s.env w g β) id false (.vec e0 (.int .u8) l) := h.objs id v false _ hent
      obtain ⟨hz, hO⟩ := hO
      have hO : (match β id with
        | none => l = []
        | some pl => ∃ cur k, w.heap[pl.b]? = some (.cells cur e0 (0, 0)) ∧ cur.size = pl.cap * (Ty.int .u8).size ∧ l.length ≤ pl.cap ∧ pl.cap ≤ maxLen ∧ g pl.b = .own (.id id) k ∧
            k ≤ l.length * (Ty.int .u8).size ∧ (false = false → k = 0) ∧ Chunks (Rep (s.env w g β) (.int .u8)) (cur.toList.take (l.length * (Ty.int .u8).size)) l) := hO
      have hcur : (match β id with
        | some pl => (0 < len ∨ 0 = 0 → ad = some ⟨pl.b, 0, none⟩) ∧ (([] : List Stp) = [] → 0 = 0 → cap = pl.cap)
        | none => ad = none ∧ len = 0 ∧ cap = 0) := hcur
      cases hp : β id with
      | none => rw [hp] at hO; simp only at hO; subst hO; simp at h6; omega
      | some pl =>
        rw [hp] at hO hcur
        obtain ⟨cur, k, q1, q2, q3, q4, q5, q6, q7, q8⟩ := hO
        have hk := q7 rfl
        subst hk
        have had := hcur.1 (.inr rfl)
        subst had
        have hb : pl.b < w.heap.size := (Array.getElem?_eq_some_iff.1 q1).1
        have hfz : ∃ w', w.freeze ⟨pl.b, cur.size, none⟩ 1 = w' ∧ w'.heap[pl.b]? = some (.cells cur e0 (cur.size, cur.size + 1)) ∧ w'.os = w.os ∧ w'.tape = w.tape ∧ w'.output = w.output ∧ w'.heap.size = w.heap.size ∧ ∀ b', b' ≠ pl.b → w'.heap[b']? = w.heap[b']? := by
          refine ⟨_, rfl, ?_⟩
          unfold World.freeze
          rw [if_neg (by omega)]
          refine ⟨?_, rfl, rfl, rfl, by simp, fun b' hb' => ?_⟩
          · simp only [Array.getElem?_modify, if_true, q1, Option.map_some]
            rfl
          · simp only [Array.getElem?_modify]
            rw [if_neg (fun e => hb' e.symm)]
        obtain ⟨w', hw', f1, f2, f3, f4, f5, f6⟩ := hfz
        have hsh : w.shape? pl.b = some (e0, cur.size) := by simp only [World.shape?, q1]
        have hm : (markStringish ⟨pl.b, 0, none⟩).run P w = .ok () w' := by
          simp only [markStringish, Sem.run_bind, run_shape, hsh, Result.andThen_ok, run_freeze, hw']
        have i1 := h.kill hent q5 f2 f3 f4 f5 f6
        refine .inl ⟨.slice (some ⟨pl.b, 0, none⟩) len cap, w', exec_value (f := convert src src (a.eval x)) (by simp only [execOp, ho]) ?_, _, β, i1.put o.dst ⟨_, ?_, rfl⟩⟩
        · rw [hy]
          simp [convert, run_underlying hD, run_underlying hE, hm]
        · have hvs := chunks_ints q8
          have hone : (Ty.int .u8).size = 1 := rfl
          rw [hone, Nat.mul_one] at hvs
          simp only [V, Rep]
          refine ⟨_, cap, l.map (Value.int .u8), by rw [h6], by rw [← h6]; exact hcap, fun _ => rfl, fun j vv hj => ⟨_, _, rfl, ?_, ?_⟩, ints_chunks (E := (s.setEnt id .dead).env w' (upd1 g pl.b .free) β) _⟩
          · rw [Nat.zero_add]
            show w'.cell? ⟨pl.b, j, none⟩ = some vv
            simp only [World.cell?, f1]
            rw [← hvs, List.getElem?_take] at hj
            split at hj
            · simpa using hj
            · cases hj
          · show okAt (upd1 g pl.b .free) pl.b (0 + j)
            unfold okAt
            rw [upd1_self]
            trivial
    · simp only [eval_fail] at he
  · simp only [eval_fail] at he

theorem conv_sb (h : Inv C g β s a w) {src dst : TypeId} {x : Operand} (ho : o.op = .convert src dst x) {l : List Int} (hl : s.ev x = .sb l) {v : AVal} (he : (convS P src dst l).eval = some v) : Runs P o a w (Sts C (s.put o.dst v)) := by
  have hx := h.ev x
  have fin : ∀ z, (convert src dst (a.eval x)).run P w = .ok z w → VS (s.env w g β) v z → Runs P o a w (Sts C (s.put o.dst v)) := by
    intro z h1 h2
    exact h.value h2 (exec_value (f := convert src dst (a.eval x)) (by simp only [execOp, ho]) h1)
  unfold convS at he
  split at he
  · rename_i e e' hD hS
    rw [hl] at hx
    split at he
    · rename_i hE
      obtain ⟨h1, h2⟩ := eval_guard.1 he
      obtain rfl := eval_ok.1 h2
      have h1 : src = dst := by simpa using h1
      subst h1
      obtain ⟨cs, hv, hO⟩ := hx
      simp only [V] at hv
      obtain ⟨b, cap, arr, e2, hcs, hcap, hfr, hb, harr⟩ := hv
      have hO' : cs = [a.eval x] := hO
      rw [hcs] at hO'
      have hy : a.eval x = .slice (some ⟨b, 0, none⟩) l.length cap := by simpa using hO'.symm
      rw [hD] at hS
      obtain rfl : e = e' := by simpa using hS
      refine fin (.slice (some ⟨b, 0, none⟩) l.length cap) ?_ ⟨_, ?_, rfl⟩
      · rw [hy]
        have hb : w.heap[b]? = some (.cells arr e2 (arr.size, arr.size + 1)) := hb
        have hfz := freeze_same hb
        have hsh : w.shape? b = some (e2, arr.size) := by simp only [World.shape?, hb]
        have hm : (markStringish ⟨b, 0, none⟩).run P w = .ok () w := by
          simp only [markStringish, Sem.run_bind, run_shape, hsh, Result.andThen_ok, run_freeze, hfz]
        simp [convert, run_underlying hD, run_underlying hE, hm]
      · simp only [V, Rep]
        refine ⟨_, cap, l.map (Value.int .u8), rfl, hcap, fun _ => rfl, fun j v hj => ⟨_, _, rfl, ?_, ?_⟩, ints_chunks (E := s.env w g β) _⟩
        · rw [Nat.zero_add]
          show w.cell? ⟨b, j, none⟩ = some v
          have hb : w.heap[b]? = some (.cells arr e2 (arr.size, arr.size + 1)) := hb
          simp only [World.cell?, hb]
          simpa using harr j v hj
        · show okAt g b (0 + j)
          unfold okAt
          have hfr : g b = .free := hfr
          rw [hfr]
          trivial
    · simp only [eval_fail] at he
  · simp only [eval_fail] at he

theorem convert_runs (h : Inv C g β s a w) {obj : Bool} {src dst : TypeId} {x : Operand} (ho : o.op = .convert src dst x) {v : AVal} (he : (convA P s obj src dst (s.ev x)).eval = some v) : Runs P o a w (Sts C (s.put o.dst v)) := by
  have hx := h.ev x
  have fin : ∀ z, (convert src dst (a.eval x)).run P w = .ok z w → VS (s.env w g β) v z → Runs P o a w (Sts C (s.put o.dst v)) := by
    intro z h1 h2
    exact h.value h2 (exec_value (f := convert src dst (a.eval x)) (by simp only [execOp, ho]) h1)
  unfold convA at he
  split at he
  · rename_i l hl
    exact conv_sb h ho hl he
  rename_i hl0
  unfold convB at he
  split at he
  · rename_i k n k' d hl hD hS
    rw [hl] at hx
    obtain rfl := eval_ok.1 he
    refine fin (.int k' (k'.wrap n)) ?_ (VS_int _ _)
    rw [int_of hx]
    simp [convert, run_underlying hD, run_underlying hS, Conv.intToInt]
  · rename_i st d hl hD hS
    rw [hl] at hx
    obtain rfl := eval_ok.1 he
    refine fin (.string st) ?_ (VS_str _)
    rw [str_of hx]
    simp [convert, run_underlying hD, run_underlying hS]
  · rename_i st e d hl hD hS
    rw [hl] at hx
    split at he
    · rename_i hE
      obtain ⟨cap, hcap, arr, harr, hrun⟩ := run_stringToBytes (P := P) e st w
      have i1 := (h.drew).allocFree (.cells arr e (arr.size, arr.size + 1))
      have hlen : (bytesOfStr st).length = st.size := by simp only [bytesOfStr, List.length_map, Array.length_toList]; rfl
      have h2 := alloc_at w.drew (.cells arr e (arr.size, arr.size + 1))
      have hex : (execOp a.eval o).run P w = .ok (.value (.slice (some ⟨w.heap.size, 0, none⟩) st.size cap)) (w.drew.alloc (.cells arr e (arr.size, arr.size + 1))) := by
        refine exec_value (f := convert src dst (a.eval x)) (by simp only [execOp, ho]) ?_
        rw [str_of hx]
        simp [convert, run_underlying hD, run_underlying hS, run_underlying hE, hrun]
      have hfree : upd1 g w.drew.heap.size .free w.heap.size = .free := by
        rw [show w.drew.heap.size = w.heap.size from rfl, upd1_self]
      cases obj with
      | false =>
        obtain rfl := eval_ok.1 he
        refine .inl ⟨_, _, hex, _, β, i1.put o.dst ⟨_, ?_, rfl⟩⟩
        simp only [V, Rep]
        refine ⟨_, cap, (bytesOfStr st).map (Value.int .u8), by rw [hlen], by omega, fun _ => rfl, fun j v hj => ⟨_, _, rfl, ?_, ?_⟩, ints_chunks (E := s.env (w.drew.alloc (.cells arr e (arr.size, arr.size + 1))) (upd1 g w.drew.heap.size .free) β) _⟩
        · have := harr j v hj
          rw [Nat.zero_add]
          show (w.drew.alloc (.cells arr e (arr.size, arr.size + 1))).cell? ⟨w.drew.heap.size, j, none⟩ = some v
          simp only [World.cell?, h2]
          simpa using this
        · show okAt (upd1 g w.drew.heap.size .free) w.heap.size (0 + j)
          unfold okAt
          rw [hfree]
          trivial
      | true =>
        obtain rfl := eval_ok.1 he
        refine .inl ⟨_, _, hex, _, β, i1.put o.dst ⟨_, ?_, rfl⟩⟩
        simp only [V]
        exact ⟨w.heap.size, cap, arr, e, by rw [hlen], by omega, hfree, h2, harr⟩
    · simp only [eval_fail] at he
  · rename_i e hD hS hne
    clear hne
    split at he
    · rename_i hE
      obtain ⟨l, h1, h2⟩ := eval_bind.1 he
      obtain rfl := eval_ok.1 h2
      obtain ⟨cs, hR, hO⟩ := peek_sound h hx h1
      simp only [Rep] at hR
      obtain ⟨ad, cap, vs, rfl, hlc, hsome, hrow, hch⟩ := hR
      have hO' : [Value.slice ad (List.length l) cap] = [a.eval x] := hO
      have hy : a.eval x = .slice ad (List.length l) cap := by simpa using hO'.symm
      refine fin (.string (strOfBytes l)) ?_ (VS_str _)
      rw [hy, run_convert_bytes_string w src dst e ad _ _ hS hE hD]
      have hvs := chunks_ints (E := (s.env w g β).open) (k := .u8) (vs := vs) (l := l) hch
      cases ad with
      | none =>
        have hl0 : l = [] := by
          cases l with
          | nil => rfl
          | cons _ _ => simp at hsome
        subst hl0
        rfl
      | some ad =>
        have hload : (loadCells ad (List.length l)).run P w = .ok (l.map (Value.int .u8)).toArray w := by
          have := run_loadCells_list (P := P) w ad (l.map (Value.int .u8)) (fun j v hj => by
            rw [← hvs] at hj
            obtain ⟨bb, off, e1, hh⟩ := hrow j v hj
            simp only [Option.some.injEq] at e1
            subst e1
            rw [Addr.add_lit]
            exact hh.1)
          simpa using this
        rw [run_bytesToString w ad _ _ l hload, foldl_push]
        simp [strOfBytes]
    · simp only [eval_fail] at he
  · simp only [eval_fail] at he

end
end Go.Ab
