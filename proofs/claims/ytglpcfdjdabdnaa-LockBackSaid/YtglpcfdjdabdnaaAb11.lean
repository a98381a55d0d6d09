/-
  The abstract machine, a part.
-/
import Derived.Test.YtglpcfdjdabdnaaAb8

/-
  Soundness of the operations, seventh part: lengths, conversions, composites, new slices, append.
-/
namespace Go.Ab

section
variable {P : Program} {C : Ctx} {g : Nat → Lab} {β : Id → Option Pl} {s : AS} {a : Act} {w : World} {o : Oper}

theorem builtin_value {b : Builtin} {args : Array Operand} {ts : Array TypeId} {f : Sem Value} {x : Value} {w' : World} (ho : o.op = .call { callee := .builtin b, args, argTypes := ts })
    (hb : ∀ ty cs xs, xs = args.map a.eval → builtin b ts ty cs xs = (do pure (.value (← f)))) (hf : f.run P w = .ok x w') : (execOp a.eval o).run P w = .ok (.value x) w' := by
  simp only [execOp, ho, resolve, Sem.run_bind, Sem.run_pure, Result.andThen_ok, invoke]
  rw [hb _ _ _ rfl, Sem.run_bind, hf]
  rfl

theorem len_runs (h : Inv C g β s a w) {c : Call} {x : Operand} {T : TypeId} (ho : o.op = .call c) (hc : c.callee = .builtin .len) (ha : c.args.toList = [x]) (ht : c.argTypes.toList = [T]) {v : AVal} (he : (lenA P T (s.ev x)).eval = some v) :
    Runs P o a w (Sts C (s.put o.dst v)) := by
  obtain ⟨cal, args, tys⟩ := c
  simp only at hc ha ht
  have ha' : args = #[x] := by apply Array.ext'; simpa using ha
  have ht' : tys = #[T] := by apply Array.ext'; simpa using ht
  subst hc ha' ht'
  have hx := h.ev x
  have fin : ∀ z, (Builtin.len_ #[T] 0 #[a.eval x]).run P w = .ok z w → VS (s.env w g β) v z → Runs P o a w (Sts C (s.put o.dst v)) := by
    intro z h1 h2
    refine h.value h2 (builtin_value ho (f := Builtin.len_ #[T] 0 #[a.eval x]) (fun ty cs xs hxs => ?_) h1)
    subst hxs
    have e1 : Builtin.len_ #[T] 0 #[a.eval x] = Builtin.len_ #[T] ty #[a.eval x] := rfl
    rw [e1]
    simp [builtin]
  unfold lenA at he
  split at he
  · rename_i st hT hl
    rw [hl] at hx
    obtain rfl := eval_ok.1 he
    refine fin (.int .i64 (st.size : Int)) ?_ (VS_int _ _)
    rw [str_of hx]
    simp [Builtin.len_, run_underlying hT, goInt]
  · rename_i e t l hT hl
    rw [hl] at hx
    obtain rfl := eval_ok.1 he
    obtain ⟨ad, cap, vs, hy, _⟩ := slice_of hx
    refine fin (.int .i64 (l.length : Int)) ?_ (VS_int _ _)
    rw [hy]
    simp [Builtin.len_, run_underlying hT, goInt]
  · rename_i e hT hl
    rw [hl] at hx
    obtain rfl := eval_ok.1 he
    refine fin (.int .i64 0) ?_ (VS_int _ _)
    rw [nils_of hx]
    simp [Builtin.len_, run_underlying hT, goInt]
  · rename_i e id ver p c i len hT hl
    rw [hl] at hx
    obtain rfl := eval_ok.1 he
    obtain ⟨ad, cap, hy, _⟩ := sref_of hx
    refine fin (.int .i64 (len : Int)) ?_ (VS_int _ _)
    rw [hy]
    simp [Builtin.len_, run_underlying hT, goInt]
  · rename_i n e hT
    obtain rfl := eval_ok.1 he
    refine fin (.int .i64 (n : Int)) ?_ (VS_int _ _)
    simp [Builtin.len_, run_underlying hT, goInt]
  · simp only [eval_fail] at he

/-! ### Data that is only looked at now -/

def Env.open (E : Env) : Env := { E with g := fun _ => .free }

theorem open_le (E : Env) : EnvLe E E.open := ⟨⟨fun _ _ _ h => ⟨h.1, trivial⟩, fun _ _ _ h => ⟨rfl, h⟩⟩, fun _ _ h => h, fun _ _ _ h => ⟨h, rfl⟩⟩

theorem peek_sound (h : Inv C g β s a w) {v : AVal} {y : Value} (hv : VS (s.env w g β) v y) {t : Ty} {x : t.den} (ht : (s.peek t v).eval = some x) :
    ∃ cs, Rep (s.env w g β).open t cs x ∧ OfCells t.agg cs y := by
  obtain ⟨cs, hV, hO⟩ := hv.celled (toTy_celled ht)
  exact ⟨cs, toTy_rep rfl h.objs (open_le _) v t x cs hV ht (fun id _ v fr c _ pl _ j x hx _ => ⟨hx, trivial⟩), by rw [← toTy_agg ht]; exact hO⟩

theorem chunks_ints {E : Env} {k : IntKind} : ∀ {vs : List Value} {l : List Int}, Chunks (Rep E (.int k)) vs l → vs = l.map (Value.int k)
  | vs, [], h => h
  | _, x :: xs, ⟨c, cs', e, hx, hr⟩ => by
    have hx' : c = [Value.int k x] := by simpa only [Rep] using hx
    rw [e, hx', chunks_ints hr]
    rfl

theorem ints_chunks {E : Env} {k : IntKind} : ∀ (l : List Int), Chunks (Rep E (.int k)) (l.map (Value.int k)) l
  | [] => rfl
  | x :: xs => ⟨[.int k x], xs.map (Value.int k), rfl, by simp [Rep], ints_chunks xs⟩

theorem foldl_push (l : List Int) : ∀ b : ByteArray, l.foldl (fun r n => r.push (UInt8.ofNat n.toNat)) b = ⟨b.data ++ (l.map fun n => UInt8.ofNat n.toNat).toArray⟩ := by
  induction l with
  | nil => intro b; simp
  | cons n l ih =>
    intro b
    rw [List.foldl_cons, ih]
    simp [ByteArray.push]

theorem push_modify {α : Type} (xs : Array α) (x : α) (f : α → α) : (xs.push x).modify xs.size f = xs.push (f x) := by
  apply Array.ext_getElem?
  intro i
  rw [Array.getElem?_modify, Array.getElem?_push, Array.getElem?_push]
  by_cases h : i = xs.size
  · subst h; simp
  · have h' : ¬ xs.size = i := fun e => h e.symm
    simp [h, h']

theorem freeze_alloc (w : World) (c : Array Value) (e : TypeId) (n : Nat) : (w.alloc (.cells c e)).freeze ⟨w.heap.size, n, none⟩ 1 = w.alloc (.cells c e (n, n + 1)) := by
  show ({ w with heap := (w.heap.push (.cells c e)).modify w.heap.size _ } : World) = { w with heap := w.heap.push (.cells c e (n, n + 1)) }
  rw [push_modify]
  rfl

theorem freeze_same {w : World} {b : Nat} {c : Array Value} {e : TypeId} {n : Nat} (h : w.heap[b]? = some (.cells c e (n, n + 1))) : w.freeze ⟨b, n, none⟩ 1 = w := by
  unfold World.freeze
  rw [if_neg (by omega)]
  have : ∀ f : Obj → Obj, f (.cells c e (n, n + 1)) = .cells c e (n, n + 1) → w.heap.modify b f = w.heap := fun f hf => by
    apply Array.ext_getElem?
    intro i
    rw [Array.getElem?_modify]
    split
    · rename_i hi; subst hi; rw [h]; simp [hf]
    · rfl
  rw [this]
  simp

theorem run_stringToBytes (e : TypeId) (st : ByteArray) (w : World) : ∃ cap : Nat, st.size ≤ cap ∧ ∃ arr : Array Value, (∀ (j : Nat) (v : Value), ((bytesOfStr st).map (Value.int .u8))[j]? = some v → arr[j]? = some v) ∧
    (Conv.stringToBytes e st).run P w = .ok (.slice (some ⟨w.heap.size, 0, none⟩) st.size cap) (w.drew.alloc (.cells arr e (arr.size, arr.size + 1))) := by
  refine ⟨(Question.appendCap st.size 0 e).cut (w.tape w.drawn (.appendCap st.size 0 e)), by simp [Question.cut],
    (st.data.map fun b => Value.int .u8 b.toNat) ++ Array.replicate ((Question.appendCap st.size 0 e).cut (w.tape w.drawn (.appendCap st.size 0 e)) - st.size) (.int .u8 0), ?_, ?_⟩
  · intro j v hj
    have hl : j < st.data.size := by
      have := (List.getElem?_eq_some_iff.1 hj).1
      simpa [bytesOfStr] using this
    rw [Array.getElem?_append, if_pos (by simpa using hl)]
    simpa [bytesOfStr, hl] using hj
  · have hs : ∀ (arr : Array Value), (markStringish ⟨w.heap.size, 0, none⟩).run P (w.drew.alloc (.cells arr e)) = .ok () (w.drew.alloc (.cells arr e (arr.size, arr.size + 1))) := by
      intro arr
      have h1 : (w.drew.alloc (.cells arr e)).shape? w.heap.size = some (e, arr.size) := by
        have h2 : (w.drew.alloc (.cells arr e)).heap[w.heap.size]? = some (.cells arr e) := alloc_at w.drew _
        simp only [World.shape?, h2]
      have h3 := freeze_alloc w.drew arr e arr.size
      have h4 : w.drew.heap.size = w.heap.size := rfl
      rw [h4] at h3
      simp only [markStringish, Sem.run_bind, run_shape, h1, Result.andThen_ok, run_freeze, h3]
    simp [Conv.stringToBytes, Question.forced, newRow, hs]

theorem Inv.kill (h : Inv C g β s a w) {id : Id} {v : Nat} {fr : Bool} {c : AVal} (hs : s.ent id = some (.obj v fr c)) {b : Nat} (hg : g b = .own (.id id) 0) {w' : World} (hos : w'.os = w.os) (htp : w'.tape = w.tape) (hout : w'.output = w.output) (hsz : w'.heap.size = w.heap.size)
    (hoth : ∀ b', b' ≠ b → w'.heap[b']? = w.heap[b']?) : Inv C (upd1 g b .free) β (s.setEnt id .dead) a w' := by
  have ht : Trans w w' g (upd1 g b .free) := by
    refine ⟨hos, htp, hout, by omega, fun b' hb' => ?_⟩
    by_cases he : b' = b
    · subst he
      rw [hg, upd1_self]
      exact ⟨.inl rfl, fun _ _ hh => by omega⟩
    · rw [upd1_other _ _ _ he, hoth b' he]
      cases hgb : g b' with
      | free => exact ⟨rfl, rfl⟩
      | own o k => cases o with
        | foreign => exact ⟨rfl, rfl⟩
        | id i => exact ⟨.inr ⟨i, k, rfl, Nat.le_refl _⟩, fun off v _ hv => by simp only [World.cell?, hoth b' he] at hv ⊢; exact hv⟩
  have hself := ent_setEnt_self s id .dead (by rw [hs]; simp)
  have hle : EnvLe (s.env w g β) ((s.setEnt id .dead).env w' (upd1 g b .free) β) := by
    refine ⟨Trans.mem ht, fun i ver hb => ?_, fun i ver hb hc => ?_⟩
    · by_cases hi : i = id
      · subst hi
        exact ⟨by show (s.setEnt i .dead).ent i ≠ none; rw [hself]; simp, fun v fr c hh => by
          have hh : (s.setEnt i .dead).ent i = some (.obj v fr c) := hh
          rw [hself] at hh; cases hh⟩
      · have := ent_setEnt_other s id i .dead hi
        obtain ⟨h1, h2⟩ := hb
        exact ⟨by show (s.setEnt id .dead).ent i ≠ none; rw [this]; exact h1, fun v fr c hh => h2 v fr c (this.symm.trans hh)⟩
    · obtain ⟨fr, c, hc⟩ := hc
      have hc : (s.setEnt id .dead).ent i = some (.obj ver fr c) := hc
      by_cases hi : i = id
      · subst hi; rw [hself] at hc; cases hc
      · rw [ent_setEnt_other s id i .dead hi] at hc
        exact ⟨⟨fr, c, hc⟩, rfl⟩
  refine h.step (slots_setEnt _ _ _) ht hle fun i ver fr c hi => ?_
  have hi : (s.setEnt id .dead).ent i = some (.obj ver fr c) := hi
  by_cases hid : i = id
  · subst hid; rw [hself] at hi; cases hi
  · rw [ent_setEnt_other s id i .dead hid] at hi
    refine (h.objs i ver fr c hi).mono hle rfl fun pl hp => ?_
    have hne := h.apart hg hid hi (pl := pl) hp
    exact ⟨hoth pl.b hne, upd1_other _ _ _ hne⟩

theorem convK_runs (h : Inv C g β s a w) {src dst : TypeId} {x : Operand} (ho : o.op = .convert src dst x) {id : Id} {ver len : Nat} (hx : s.ev x = .sref id ver [] 0 0 len) {s' : AS} (he : (convK P s o.dst src dst id ver len).eval = some s') : Runs P o a w (Sts C s') := by
  unfold convK at he
  split at he
  · rename_i v e0 l e hob hD
    split at he
    · rename_i hE
      obtain ⟨h1, h2⟩ := eval_guard.1 he
      obtain ⟨h3, h4⟩ := eval_chk.1 h2
      obtain rfl := eval_ok.1 h4
      simp only [Bool.and_eq_true, beq_iff_eq] at h1
      obtain ⟨rfl, rfl⟩ := h1
      simp only [decide_eq_true_eq] at h3
      obtain ⟨h5, h6⟩ := h3
      have hent := obj_some hob
      have hv := h.ev x
      rw [hx] at hv
      obtain ⟨ad, cap, hy, hcap, _, _, hcur⟩ := sref_of hv
      have hcur := hcur ⟨false, _, hent⟩
      have hO : ObjR (s.env w g β) id false (.vec e0 (.int .u8) l) := h.objs id v false _ hent
      obtain ⟨hz, hO⟩ := hO
      have hO : (match β id with
        | none => l = []
        | some pl => ∃ cur k, w.heap[pl.b]? = some (.cells cur e0 (0, 0)) ∧ cur.size = pl.cap * (Ty.int .u8).size ∧ l.length ≤ pl.cap ∧ pl.cap ≤ maxLen ∧ g pl.b = .own (.id id) k ∧
            k ≤ l.length * (Ty.int .u8).size ∧ (false = false → k = 0) ∧ Chunks (Rep (s.env w g β) (.int .u8)) (cur.toList.take (l.length * (Ty.int .u8).size)) l) := hO
      have hcur : (match β id with
        | some pl => (0 < len ∨ 0 = 0 → ad = some ⟨pl.b, 0, none⟩) ∧ (([] : List Stp) = [] → 0 = 0 → cap = pl.cap)
        | none => ad = none ∧ len = 0 ∧ cap = 0) := hcur
      cases hp : β id with
      | none => rw [hp] at hO; simp only at hO; subst hO; simp at h6; omega
      | some pl =>
        rw [hp] at hO hcur
        obtain ⟨cur, k, q1, q2, q3, q4, q5, q6, q7, q8⟩ := hO
        have hk := q7 rfl
        subst hk
        have had := hcur.1 (.inr rfl)
        subst had
        have hb : pl.b < w.heap.size := (Array.getElem?_eq_some_iff.1 q1).1
        have hfz : ∃ w', w.freeze ⟨pl.b, cur.size, none⟩ 1 = w' ∧ w'.heap[pl.b]? = some (.cells cur e0 (cur.size, cur.size + 1)) ∧ w'.os = w.os ∧ w'.tape = w.tape ∧ w'.output = w.output ∧ w'.heap.size = w.heap.size ∧ ∀ b', b' ≠ pl.b → w'.heap[b']? = w.heap[b']? := by
          refine ⟨_, rfl, ?_⟩
          unfold World.freeze
          rw [if_neg (by omega)]
          refine ⟨?_, rfl, rfl, rfl, by simp, fun b' hb' => ?_⟩
          · simp only [Array.getElem?_modify, if_true, q1, Option.map_some]
            rfl
          · simp only [Array.getElem?_modify]
            rw [if_neg (fun e => hb' e.symm)]
        obtain ⟨w', hw', f1, f2, f3, f4, f5, f6⟩ := hfz
        have hsh : w.shape? pl.b = some (e0, cur.size) := by simp only [World.shape?, q1]
        have hm : (markStringish ⟨pl.b, 0, none⟩).run P w = .ok () w' := by
          simp only [markStringish, Sem.run_bind, run_shape, hsh, Result.andThen_ok, run_freeze, hw']
        have i1 := h.kill hent q5 f2 f3 f4 f5 f6
        refine .inl ⟨.slice (some ⟨pl.b, 0, none⟩) len cap, w', exec_value (f := convert src src (a.eval x)) (by simp only [execOp, ho]) ?_, _, β, i1.put o.dst ⟨_, ?_, rfl⟩⟩
        · rw [hy]
          simp [convert, run_underlying hD, run_underlying hE, hm]
        · have hvs := chunks_ints q8
          have hone : (Ty.int .u8).size = 1 := rfl
          rw [hone, Nat.mul_one] at hvs
          simp only [V, Rep]
          refine ⟨_, cap, l.map (Value.int .u8), by rw [h6], by rw [← h6]; exact hcap, fun _ => rfl, fun j vv hj => ⟨_, _, rfl, ?_, ?_⟩, ints_chunks (E := (s.setEnt id .dead).env w' (upd1 g pl.b .free) β) _⟩
          · rw [Nat.zero_add]
            show w'.cell? ⟨pl.b, j, none⟩ = some vv
            simp only [World.cell?, f1]
            rw [← hvs, List.getElem?_take] at hj
            split at hj
            · simpa using hj
            · cases hj
          · show okAt (upd1 g pl.b .free) pl.b (0 + j)
            unfold okAt
            rw [upd1_self]
            trivial
    · simp only [eval_fail] at he
  · simp only [eval_fail] at he

theorem conv_sb (h : Inv C g β s a w) {src dst : TypeId} {x : Operand} (ho : o.op = .convert src dst x) {l : List Int} (hl : s.ev x = .sb l) {v : AVal} (he : (convS P src dst l).eval = some v) : Runs P o a w (Sts C (s.put o.dst v)) := by
  have hx := h.ev x
  have fin : ∀ z, (convert src dst (a.eval x)).run P w = .ok z w → VS (s.env w g β) v z → Runs P o a w (Sts C (s.put o.dst v)) := by
    intro z h1 h2
    exact h.value h2 (exec_value (f := convert src dst (a.eval x)) (by simp only [execOp, ho]) h1)
  unfold convS at he
  split at he
  · rename_i e e' hD hS
    rw [hl] at hx
    split at he
    · rename_i hE
      obtain ⟨h1, h2⟩ := eval_guard.1 he
      obtain rfl := eval_ok.1 h2
      have h1 : src = dst := by simpa using h1
      subst h1
      obtain ⟨cs, hv, hO⟩ := hx
      simp only [V] at hv
      obtain ⟨b, cap, arr, e2, hcs, hcap, hfr, hb, harr⟩ := hv
      have hO' : cs = [a.eval x] := hO
      rw [hcs] at hO'
      have hy : a.eval x = .slice (some ⟨b, 0, none⟩) l.length cap := by simpa using hO'.symm
      rw [hD] at hS
      obtain rfl : e = e' := by simpa using hS
      refine fin (.slice (some ⟨b, 0, none⟩) l.length cap) ?_ ⟨_, ?_, rfl⟩
      · rw [hy]
        have hb : w.heap[b]? = some (.cells arr e2 (arr.size, arr.size + 1)) := hb
        have hfz := freeze_same hb
        have hsh : w.shape? b = some (e2, arr.size) := by simp only [World.shape?, hb]
        have hm : (markStringish ⟨b, 0, none⟩).run P w = .ok () w := by
          simp only [markStringish, Sem.run_bind, run_shape, hsh, Result.andThen_ok, run_freeze, hfz]
        simp [convert, run_underlying hD, run_underlying hE, hm]
      · simp only [V, Rep]
        refine ⟨_, cap, l.map (Value.int .u8), rfl, hcap, fun _ => rfl, fun j v hj => ⟨_, _, rfl, ?_, ?_⟩, ints_chunks (E := s.env w g β) _⟩
        · rw [Nat.zero_add]
          show w.cell? ⟨b, j, none⟩ = some v
          have hb : w.heap[b]? = some (.cells arr e2 (arr.size, arr.size + 1)) := hb
          simp only [World.cell?, hb]
          simpa using harr j v hj
        · show okAt g b (0 + j)
          unfold okAt
          have hfr : g b = .free := hfr
          rw [hfr]
          trivial
    · simp only [eval_fail] at he
  · simp only [eval_fail] at he

theorem convert_runs (h : Inv C g β s a w) {obj : Bool} {src dst : TypeId} {x : Operand} (ho : o.op = .convert src dst x) {v : AVal} (he : (convA P s obj src dst (s.ev x)).eval = some v) : Runs P o a w (Sts C (s.put o.dst v)) := by
  have hx := h.ev x
  have fin : ∀ z, (convert src dst (a.eval x)).run P w = .ok z w → VS (s.env w g β) v z → Runs P o a w (Sts C (s.put o.dst v)) := by
    intro z h1 h2
    exact h.value h2 (exec_value (f := convert src dst (a.eval x)) (by simp only [execOp, ho]) h1)
  unfold convA at he
  split at he
  · rename_i l hl
    exact conv_sb h ho hl he
  rename_i hl0
  unfold convB at he
  split at he
  · rename_i k n k' d hl hD hS
    rw [hl] at hx
    obtain rfl := eval_ok.1 he
    refine fin (.int k' (k'.wrap n)) ?_ (VS_int _ _)
    rw [int_of hx]
    simp [convert, run_underlying hD, run_underlying hS, Conv.intToInt]
  · rename_i st d hl hD hS
    rw [hl] at hx
    obtain rfl := eval_ok.1 he
    refine fin (.string st) ?_ (VS_str _)
    rw [str_of hx]
    simp [convert, run_underlying hD, run_underlying hS]
  · rename_i st e d hl hD hS
    rw [hl] at hx
    split at he
    · rename_i hE
      obtain ⟨cap, hcap, arr, harr, hrun⟩ := run_stringToBytes (P := P) e st w
      have i1 := (h.drew).allocFree (.cells arr e (arr.size, arr.size + 1))
      have hlen : (bytesOfStr st).length = st.size := by simp only [bytesOfStr, List.length_map, Array.length_toList]; rfl
      have h2 := alloc_at w.drew (.cells arr e (arr.size, arr.size + 1))
      have hex : (execOp a.eval o).run P w = .ok (.value (.slice (some ⟨w.heap.size, 0, none⟩) st.size cap)) (w.drew.alloc (.cells arr e (arr.size, arr.size + 1))) := by
        refine exec_value (f := convert src dst (a.eval x)) (by simp only [execOp, ho]) ?_
        rw [str_of hx]
        simp [convert, run_underlying hD, run_underlying hS, run_underlying hE, hrun]
      have hfree : upd1 g w.drew.heap.size .free w.heap.size = .free := by
        rw [show w.drew.heap.size = w.heap.size from rfl, upd1_self]
      cases obj with
      | false =>
        obtain rfl := eval_ok.1 he
        refine .inl ⟨_, _, hex, _, β, i1.put o.dst ⟨_, ?_, rfl⟩⟩
        simp only [V, Rep]
        refine ⟨_, cap, (bytesOfStr st).map (Value.int .u8), by rw [hlen], by omega, fun _ => rfl, fun j v hj => ⟨_, _, rfl, ?_, ?_⟩, ints_chunks (E := s.env (w.drew.alloc (.cells arr e (arr.size, arr.size + 1))) (upd1 g w.drew.heap.size .free) β) _⟩
        · have := harr j v hj
          rw [Nat.zero_add]
          show (w.drew.alloc (.cells arr e (arr.size, arr.size + 1))).cell? ⟨w.drew.heap.size, j, none⟩ = some v
          simp only [World.cell?, h2]
          simpa using this
        · show okAt (upd1 g w.drew.heap.size .free) w.heap.size (0 + j)
          unfold okAt
          rw [hfree]
          trivial
      | true =>
        obtain rfl := eval_ok.1 he
        refine .inl ⟨_, _, hex, _, β, i1.put o.dst ⟨_, ?_, rfl⟩⟩
        simp only [V]
        exact ⟨w.heap.size, cap, arr, e, by rw [hlen], by omega, hfree, h2, harr⟩
    · simp only [eval_fail] at he
  · rename_i e hD hS hne
    clear hne
    split at he
    · rename_i hE
      obtain ⟨l, h1, h2⟩ := eval_bind.1 he
      obtain rfl := eval_ok.1 h2
      obtain ⟨cs, hR, hO⟩ := peek_sound h hx h1
      simp only [Rep] at hR
      obtain ⟨ad, cap, vs, rfl, hlc, hsome, hrow, hch⟩ := hR
      have hO' : [Value.slice ad (List.length l) cap] = [a.eval x] := hO
      have hy : a.eval x = .slice ad (List.length l) cap := by simpa using hO'.symm
      refine fin (.string (strOfBytes l)) ?_ (VS_str _)
      rw [hy, run_convert_bytes_string w src dst e ad _ _ hS hE hD]
      have hvs := chunks_ints (E := (s.env w g β).open) (k := .u8) (vs := vs) (l := l) hch
      cases ad with
      | none =>
        have hl0 : l = [] := by
          cases l with
          | nil => rfl
          | cons _ _ => simp at hsome
        subst hl0
        rfl
      | some ad =>
        have hload : (loadCells ad (List.length l)).run P w = .ok (l.map (Value.int .u8)).toArray w := by
          have := run_loadCells_list (P := P) w ad (l.map (Value.int .u8)) (fun j v hj => by
            rw [← hvs] at hj
            obtain ⟨bb, off, e1, hh⟩ := hrow j v hj
            simp only [Option.some.injEq] at e1
            subst e1
            rw [Addr.add_lit]
            exact hh.1)
          simpa using this
        rw [run_bytesToString w ad _ _ l hload, foldl_push]
        simp [strOfBytes]
    · simp only [eval_fail] at he
  · simp only [eval_fail] at he

end
end Go.Ab

/-
  Soundness of the operations, eighth part: composites, new slices, append.
-/
namespace Go.Ab

section
variable {P : Program} {C : Ctx} {g : Nat → Lab} {β : Id → Option Pl} {s : AS} {a : Act} {w : World} {o : Oper}

theorem foldl_put (off : Nat) : ∀ (vs : List Value) (k : Nat) (cells : Array Value), off + k + vs.length ≤ cells.size →
    ((vs.zipIdx k).foldl (fun cs (c, j) => cs.setIfInBounds (off + j) c) cells).toList = splice cells.toList (off + k) vs
  | [], k, cells, _ => by simp [splice]
  | v :: vs, k, cells, h => by
    simp only [List.length_cons] at h
    rw [List.zipIdx_cons, List.foldl_cons, foldl_put off vs (k + 1) _ (by simpa using (by omega : off + (k + 1) + vs.length ≤ cells.size))]
    rw [Array.toList_setIfInBounds]
    have := list_seg_step cells.toList (off + k) v vs (by simp; omega)
    unfold splice
    simpa [Nat.add_assoc] using this

theorem fill_step {place : Nat → Option (Nat × Nat)} {cells : Array Value} {i off : Nat} {v : Value} {vs : List Value} {rest : List (Nat × Value)} (hp : place i = some (off, vs.length)) (hv : v.cells = vs.toArray) (hl : off + vs.length ≤ cells.size) :
    Instr.fill place cells ((i, v) :: rest) = Instr.fill place (splice cells.toList off vs).toArray rest := by
  have h1 : v.cells.size = vs.length := by rw [hv]; simp
  have h2 : ¬ (v.cells.size ≠ vs.length || off + v.cells.size > cells.size) = true := by simp [h1]; omega
  simp only [Instr.fill, hp]
  rw [if_neg h2]
  congr 1
  apply Array.ext'
  have := foldl_put off vs 0 cells (by omega)
  simp only [Nat.add_zero] at this
  rw [← this, hv]
  rw [← Array.foldl_toList]
  simp

/-- Parts laid into a row of elements. -/
theorem setParts_fill {E E' : Env} (hs : E.s = s.ent) (ho : Objs E) (he : EnvLe E E') {t : Ty} (hev : ∀ x, VS E (s.ev x) (a.eval x)) :
    ∀ (ps : List (Nat × Operand)) (l : List t.den) (r : List t.den × List Id) (cells : Array Value), (setParts t s ps l).eval = some r → Frz E E' r.2 → Chunks (Rep E' t) cells.toList l →
      ∃ cells', Instr.fill (fun i => some (i * t.size, t.size)) cells (ps.map fun (i, x) => (i, a.eval x)) = some cells' ∧ Chunks (Rep E' t) cells'.toList r.1
  | [], l, r, cells, h, _, hc => by
    obtain rfl := eval_ok.1 h
    exact ⟨cells, rfl, hc⟩
  | (i, x) :: ps, l, r, cells, h, hf, hc => by
    simp only [setParts] at h
    obtain ⟨h1, h2⟩ := eval_guard.1 h
    obtain ⟨y, h3, h4⟩ := eval_bind.1 h2
    obtain ⟨r', h5, h6⟩ := eval_bind.1 h4
    obtain rfl := eval_ok.1 h6
    have hi : i < l.length := by simpa using h1
    obtain ⟨cs, hV, hO⟩ := (hev x).celled (toTy_celled h3)
    have hR := toTy_rep hs ho he _ t y cs hV h3 (fun id hid => hf id (by simp [hid]))
    have hcell := hO.cells hV.one
    have hlen := hc.length (fun _ _ hx => Rep.size hx)
    have hsz := hR.size
    have hle : i * t.size + cs.length ≤ cells.size := by
      have := Nat.mul_le_mul_right t.size (show i + 1 ≤ l.length by omega)
      rw [Nat.add_mul, Nat.one_mul] at this
      simp at hlen
      omega
    have hset := Chunks.set (fun _ _ hx => Rep.size hx) hc i hi hR
    obtain ⟨cells', q1, q2⟩ := setParts_fill hs ho he hev ps (l.set i y) r' (splice cells.toList (i * t.size) cs).toArray h5 (fun id hid => hf id (by simp [hid])) hset
    refine ⟨cells', ?_, q2⟩
    rw [List.map_cons, fill_step (by rw [hsz]) hcell hle]
    exact q1

theorem range_zero_chunks {E : Env} {t : Ty} {zc : Array Value} (hz : Rep E t zc.toList t.zero) : ∀ n : Nat, Chunks (Rep E t) (madeCells zc (n * t.size)).toList (List.replicate n t.zero) := by
  have hsz : zc.size = t.size := by have := hz.size; simpa using this
  intro n
  induction n with
  | zero => simp [madeCells, Chunks]
  | succ n ih =>
    have e : (madeCells zc ((n + 1) * t.size)).toList = (madeCells zc (n * t.size)).toList ++ zc.toList := by
      apply List.ext_getElem?
      intro j
      rw [Nat.add_mul, Nat.one_mul]
      simp only [madeCells, Array.toList_map, Array.toList_range, List.getElem?_map, List.getElem?_append, List.length_map, List.length_range]
      by_cases hj : j < n * t.size
      · have hj' : j < n * t.size + t.size := by omega
        simp [hj, hj', hsz]
      · by_cases hj' : j < n * t.size + t.size
        · have hlt : j - n * t.size < zc.size := by omega
          have hm : j % t.size = j - n * t.size := by
            have : j = (j - n * t.size) + t.size * n := by rw [Nat.mul_comm t.size n]; omega
            rw [this, Nat.add_mul_mod_self_left, Nat.mod_eq_of_lt (by omega)]
            rw [Nat.mul_comm t.size n]; omega
          simp [hj, hj', hsz, hm]
          rw [getElem?_pos zc _ hlt, getElem!_pos zc _ hlt]
        · have h1 : ¬ j - n * t.size < zc.size := by omega
          simp [hj, hj', h1]
    rw [e, List.replicate_succ']
    exact Chunks.append ih (Chunks.one hz)

theorem elemOfT_sound {T : TypeId} {e : TypeId} {t : Ty} {b : Nat} (h : elemOfT P T = some (e, t, b)) :
    P.underlying T = some (.slice e) ∧ 0 < t.size ∧ ∃ i zv, P.info? e = some i ∧ i.size = t.size ∧ i.bytes = b ∧ i.zero = some zv ∧ ∀ E, Rep E t zv.cells.toList t.zero := by
  unfold elemOfT at h
  split at h
  · rename_i e' hT
    split at h
    · rename_i t' ht
      split at h
      · rename_i hg
        simp only [Option.some.injEq, Prod.mk.injEq] at h
        obtain ⟨rfl, rfl, rfl⟩ := h
        simp only [Bool.and_eq_true, Bool.not_eq_true', beq_iff_eq, beq_eq_false_iff_ne] at hg
        obtain ⟨⟨h1, h2⟩, h3⟩ := hg
        obtain ⟨i, zv, hi, hz, _, _⟩ := zchk_sound h3 { w := default, g := fun _ => .free, β := fun _ => none, s := fun _ => none }
        refine ⟨hT, by omega, i, zv, hi, by rw [← cellsOf_eq hi]; exact h1, by simp [Program.bytesOf, hi], hz, fun E => ?_⟩
        obtain ⟨i', zv', hi', hz', hV, _⟩ := zchk_sound h3 E
        rw [hi] at hi'
        obtain rfl : i = i' := by simpa using hi'
        rw [hz] at hz'
        obtain rfl : zv = zv' := by simpa using hz'
        simpa only [V] using hV
      · cases h
    · cases h
  · cases h

/-- A new slice of one's own. -/
theorem Inv.newVec (h : Inv C g β s a w) {q : Nat} (hq : s.virgin q = true) {e : TypeId} {t : Ty} {l : List t.den} {cur : Array Value} {cap : Nat} (hz : 0 < t.size) (hc : Chunks (Rep (s.env w g β) t) (cur.toList.take (l.length * t.size)) l)
    (hs : cur.size = cap * t.size) (hl : l.length ≤ cap) (hm : cap ≤ maxLen) :
    ∃ g' β', Inv C g' β' (s.born q [.obj 0 false (.vec e t l)]) a (w.alloc (.cells cur e)) ∧
      VS ((s.born q [.obj 0 false (.vec e t l)]).env (w.alloc (.cells cur e)) g' β') (.sref (.new q 0) 0 [] 0 0 l.length) (.slice (some ⟨w.heap.size, 0, none⟩) l.length cap) := by
  have ht := Trans.alloc w g (.cells cur e) (.own (.id (.new q 0)) 0)
  obtain ⟨h1, h2⟩ := h.bornAt hq (c := .vec e t l) (p := some ⟨w.heap.size, cap⟩) ht (fun b hb => ⟨alloc_lt w _ hb, upd1_other _ _ _ (by omega)⟩) (fun he => by
    refine ⟨hz, ?_⟩
    show (match updI β (.new q 0) (some ⟨w.heap.size, cap⟩) (.new q 0) with
      | none => l = []
      | some pl => _)
    rw [updI_self]
    exact ⟨cur, 0, alloc_at w _, hs, hl, hm, upd1_self _ _ _, Nat.zero_le _, fun _ => rfl, hc.mono fun _ _ hx => hx.mono he.mem⟩)
  refine ⟨_, _, h1, _, ?_, rfl⟩
  simp only [V]
  refine ⟨_, _, rfl, hl, fun _ => rfl, env_cur_born hq _ _ _ _, fun _ => ?_⟩
  show (match updI β (.new q 0) (some ⟨w.heap.size, cap⟩) (.new q 0) with
      | some pl => _
      | none => _)
  rw [updI_self]
  exact ⟨fun _ => rfl, fun _ _ => rfl⟩

/-- A slice of one's own that is nil. -/
theorem Inv.nilVec (h : Inv C g β s a w) {q : Nat} (hq : s.virgin q = true) {e : TypeId} {t : Ty} (hz : 0 < t.size) :
    ∃ β', Inv C g β' (s.born q [.obj 0 false (.vec e t [])]) a w ∧ EnvLe (s.env w g β) ((s.born q [.obj 0 false (.vec e t [])]).env w g β') ∧
      VS ((s.born q [.obj 0 false (.vec e t [])]).env w g β') (.sref (.new q 0) 0 [] 0 0 0) (.slice none 0 0) := by
  have ht := Trans.refl w g
  obtain ⟨h1, h2⟩ := h.bornAt hq (c := .vec e t []) (p := none) ht (fun b hb => ⟨rfl, rfl⟩) (fun he => by
    refine ⟨hz, ?_⟩
    show (match updI β (.new q 0) none (.new q 0) with
      | none => ([] : List t.den) = []
      | some pl => _)
    rw [updI_self])
  refine ⟨_, h1, h2, _, ?_, rfl⟩
  simp only [V]
  refine ⟨_, _, rfl, Nat.le_refl _, fun hh => by omega, env_cur_born hq _ _ _ _, fun _ => ?_⟩
  simp [AS.env]

theorem map_parts (parts : Array (Nat × Operand)) : (parts.map fun (i, x) => (i, a.eval x)).toList = parts.toList.map fun (i, x) => (i, a.eval x) := by simp

theorem buildSlice_runs (h : Inv C g β s a w) {T : TypeId} {n : Nat} {parts : Array (Nat × Operand)} {obj : Bool} (ho : o.op = .buildSlice T n parts) {s' : AS} (he : (buildSliceA P s obj o.dst T n parts.toList).eval = some s') : Runs P o a w (Sts C s') := by
  unfold buildSliceA at he
  split at he
  · rename_i e t b q hel hd
    obtain ⟨hT, hz, i, zv, hi, his, hib, hzv, hzr⟩ := elemOfT_sound hel
    obtain ⟨h1, h2⟩ := eval_guard.1 he
    obtain ⟨r, h3, h4⟩ := eval_bind.1 h2
    simp only [decide_eq_true_eq] at h1
    obtain ⟨g1, i1, e1, t1, f1⟩ := freezeAll_sound r.2 h
    have hzc : zv.cells.size = t.size := by have := (hzr (s.env w g β)).size; simpa using this
    obtain ⟨cells', hfill, hch⟩ := setParts_fill (a := a) rfl h.objs e1 h.ev parts.toList _ r (madeCells zv.cells (n * t.size)) h3 f1 (range_zero_chunks (hzr _) n)
    have hlr : r.1.length = n := by
      have : ∀ (ps : List (Nat × Operand)) (l : List t.den) (r : List t.den × List Id), (setParts t s ps l).eval = some r → r.1.length = l.length := by
        intro ps
        induction ps with
        | nil => intro l r hh; obtain rfl := eval_ok.1 hh; rfl
        | cons p ps ih =>
          intro l r hh
          obtain ⟨i, x⟩ := p
          simp only [setParts] at hh
          obtain ⟨_, h2⟩ := eval_guard.1 hh
          obtain ⟨y, h3, h4⟩ := eval_bind.1 h2
          obtain ⟨r', h5, h6⟩ := eval_bind.1 h4
          obtain rfl := eval_ok.1 h6
          have := ih _ _ h5
          simpa using this
      rw [this _ _ _ h3]
      simp
    have hcl := hch.length (fun _ _ hx => Rep.size hx)
    have hrun : (execOp a.eval o).run P w = .ok (.value (.slice (some ⟨w.heap.size, 0, none⟩) n n)) (w.alloc (.cells cells' e)) := by
      refine exec_value (f := Instr.buildSlice T n (parts.map fun (i, x) => (i, a.eval x))) (by simp only [execOp, ho]) ?_
      have hbig : ¬ n * t.size > 2 ^ 24 := by omega
      have hfill' : Instr.fill (fun i => some (i * t.size, t.size)) ((Array.range (n * t.size)).map (fun x => (zv.cells)[x % zv.cells.size]!)) (parts.map fun (i, x) => (i, a.eval x)).toList = some cells' := by
        rw [map_parts]; exact hfill
      by_cases hn : n * t.size = 0
      · have hn0 : n = 0 := by
          rcases Nat.mul_eq_zero.1 hn with h' | h'
          · exact h'
          · omega
        subst hn0
        simp only [Nat.zero_mul] at hfill' hbig
        have h0 : Array.range 0 = #[] := rfl
        rw [h0, Array.map_empty] at hfill'
        simp at hfill'
        simp [Instr.buildSlice, run_underlying hT, run_sizeOf hi, his, newRow, h0, hfill']
      · simp [Instr.buildSlice, run_underlying hT, run_sizeOf hi, his, newRow, hn, hbig, zeroValue, typeInfo, hi, hzv]
        simp at hfill'
        simp [hfill']
    cases obj with
    | true =>
      simp only at h4
      obtain ⟨hq, h5⟩ := eval_guard.1 h4
      obtain rfl := eval_ok.1 h5
      rw [← virgin_freezeAll r.2] at hq
      have hfull : cells'.toList.take (r.1.length * t.size) = cells'.toList := List.take_of_length_le (by omega)
      obtain ⟨g2, β2, i2, hv2⟩ := i1.newVec hq (e := e) (l := r.1) (cur := cells') (cap := n) hz (by rw [hfull]; exact hch) (by simp at hcl; rw [hcl, hlr]) (by omega) (by
        have : n ≤ n * t.size := Nat.le_mul_of_pos_right n hz
        unfold maxLen; omega)
      refine .inl ⟨_, _, hrun, g2, β2, ?_⟩
      rw [hd]
      rw [hlr] at hv2 ⊢
      exact i2.put (some q) hv2
    | false =>
      simp only at h4
      obtain rfl := eval_ok.1 h4
      have i2 := i1.allocFree (.cells cells' e)
      refine .inl ⟨_, _, hrun, upd1 g1 w.heap.size .free, β, ?_⟩
      rw [hd]
      refine i2.put (some q) ⟨[.slice (some ⟨w.heap.size, 0, none⟩) n n], ?_, rfl⟩
      simp only [V, Rep]
      refine ⟨_, n, cells'.toList, by rw [hlr], by omega, fun _ => rfl, fun j v hj => ⟨_, _, rfl, ?_, ?_⟩, hch.mono fun _ _ hx => hx.mono (Trans.mem (E := (s.freezeAll r.2).env w g1 β) (E' := (s.freezeAll r.2).env (w.alloc (.cells cells' e)) (upd1 g1 w.heap.size .free) β) (Trans.alloc w g1 (.cells cells' e) .free))⟩
      · show (w.alloc (.cells cells' e)).cell? ⟨w.heap.size, 0 + j, none⟩ = some v
        rw [World.cell?_alloc_new, Nat.zero_add]; simpa using hj
      · show okAt (upd1 g1 w.heap.size .free) w.heap.size (0 + j)
        unfold okAt; rw [upd1_self]; trivial
  · simp only [eval_fail] at he

theorem makeSlice_runs (h : Inv C g β s a w) {T : TypeId} {x y : Operand} (ho : o.op = .makeSlice T x y) {len cap : Int} (hx : (asInt (s.ev x)).eval = some len) (hy : (asInt (s.ev y)).eval = some cap) {s' : AS}
    (he : (makeSliceA P s o.dst T len cap).eval = some s') : Runs P o a w (Sts C s') := by
  obtain ⟨k, hx⟩ := asInt_of (h.ev x) hx
  obtain ⟨k', hy⟩ := asInt_of (h.ev y) hy
  unfold makeSliceA at he
  split at he
  · rename_i e t b q hel hd
    obtain ⟨hT, hz, i, zv, hi, his, hib, hzv, hzr⟩ := elemOfT_sound hel
    obtain ⟨hq, h2⟩ := eval_guard.1 he
    obtain ⟨h3, h4⟩ := eval_chk.1 h2
    obtain rfl := eval_ok.1 h4
    simp only [Bool.and_eq_true, decide_eq_true_eq, roomA] at h3
    obtain ⟨⟨h5, h6⟩, h7, h8⟩ := h3
    have hbytes : (i.bytes : Int) * cap ≤ 281474976710656 := by
      rw [hib]
      have : ((cap.toNat * b : Nat) : Int) ≤ 140737488355328 := by omega
      rw [Int.natCast_mul, show ((cap.toNat : Nat) : Int) = cap by omega, Int.mul_comm] at this
      omega
    have hr := run_make (P := P) w T e i zv hT hi hzv k k' len cap h5 h6 hbytes (by omega)
    rw [his] at hr
    have hzc : zv.cells.size = t.size := by have := (hzr (s.env w g β)).size; simpa using this
    have hall := range_zero_chunks (hzr (s.env w g β)) cap.toNat
    have htk := Chunks.take (fun _ _ hx => Rep.size hx) len.toNat hall
    rw [List.take_replicate, Nat.min_eq_left (by omega)] at htk
    obtain ⟨g2, β2, i2, hv2⟩ := h.newVec hq (e := e) (l := List.replicate len.toNat t.zero) (cur := madeCells zv.cells (cap.toNat * t.size)) (cap := cap.toNat) hz (by rw [List.length_replicate]; exact htk) (size_madeCells _ _) (by rw [List.length_replicate]; omega) (by unfold maxLen; omega)
    rw [List.length_replicate] at hv2
    refine .inl ⟨_, _, exec_value (f := Instr.makeSlice T (a.eval x) (a.eval y)) (by simp only [execOp, ho]) (by rw [hx, hy]; exact hr), g2, β2, ?_⟩
    rw [hd]
    exact i2.put (some q) hv2
  · simp only [eval_fail] at he

end
end Go.Ab
