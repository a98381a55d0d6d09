/-
  Texts put together: Ab11, Ab13, Ab15, Ab18, Ab20, Ab23.
-/
import Derived.Test.YtglpcfdjdabdnaaGreatMc1
import Derived.Lib.Builder
import Derived.Lib.UnsafeStr
import Derived.Lib.AppendZeros
/-
  Soundness of the operations, seventh part: lengths, conversions, composites, new slices, append.
-/
namespace Go.Ab

section
variable {P : Program} {C : Ctx} {g : Nat → Lab} {β : Id → Option Pl} {s : AS} {a : Act} {w : World} {o : Oper}

theorem builtin_value {b : Builtin} {args : Array Operand} {ts : Array TypeId} {f : Sem Value} {x : Value} {w' : World} (ho : o.op = .call { callee := .builtin b, args, argTypes := ts })
    (hb : ∀ ty cs xs, xs = args.map a.eval → builtin b ts ty cs xs = (do pure (.value (← f)))) (hf : f.run P w = .ok x w') : (execOp a.eval o).run P w = .ok (.value x) w' := by
  simp only [execOp, ho, resolve, Sem.run_bind, Sem.run_pure, Result.andThen_ok, invoke]
  rw [hb _ _ _ rfl, Sem.run_bind, hf]
  rfl

theorem len_runs (h : Inv C g β s a w) {c : Call} {x : Operand} {T : TypeId} (ho : o.op = .call c) (hc : c.callee = .builtin .len) (ha : c.args.toList = [x]) (ht : c.argTypes.toList = [T]) {v : AVal} (he : (lenA P T (s.ev x)).eval = some v) :
    Runs P o a w (Sts C (s.put o.dst v)) := by
  obtain ⟨cal, args, tys⟩ := c
  simp only at hc ha ht
  have ha' : args = #[x] := by apply Array.ext'; simpa using ha
  have ht' : tys = #[T] := by apply Array.ext'; simpa using ht
  subst hc ha' ht'
  have hx := h.ev x
  have fin : ∀ z, (Builtin.len_ #[T] 0 #[a.eval x]).run P w = .ok z w → VS (s.env w g β) v z → Runs P o a w (Sts C (s.put o.dst v)) := by
    intro z h1 h2
    refine h.value h2 (builtin_value ho (f := Builtin.len_ #[T] 0 #[a.eval x]) (fun ty cs xs hxs => ?_) h1)
    subst hxs
    have e1 : Builtin.len_ #[T] 0 #[a.eval x] = Builtin.len_ #[T] ty #[a.eval x] := rfl
    rw [e1]
    simp [builtin]
  unfold lenA at he
  split at he
  · rename_i st hT hl
    rw [hl] at hx
    obtain rfl := eval_ok.1 he
    refine fin (.int .i64 (st.size : Int)) ?_ (VS_int _ _)
    rw [str_of hx]
    simp [Builtin.len_, run_underlying hT, goInt]
  · rename_i e t l hT hl
    rw [hl] at hx
    obtain rfl := eval_ok.1 he
    obtain ⟨ad, cap, vs, hy, _⟩ := slice_of hx
    refine fin (.int .i64 (l.length : Int)) ?_ (VS_int _ _)
    rw [hy]
    simp [Builtin.len_, run_underlying hT, goInt]
  · rename_i e hT hl
    rw [hl] at hx
    obtain rfl := eval_ok.1 he
    refine fin (.int .i64 0) ?_ (VS_int _ _)
    rw [nils_of hx]
    simp [Builtin.len_, run_underlying hT, goInt]
  · rename_i e id ver p c i len hT hl
    rw [hl] at hx
    obtain rfl := eval_ok.1 he
    obtain ⟨ad, cap, hy, _⟩ := sref_of hx
    refine fin (.int .i64 (len : Int)) ?_ (VS_int _ _)
    rw [hy]
    simp [Builtin.len_, run_underlying hT, goInt]
  · rename_i n e hT
    obtain rfl := eval_ok.1 he
    refine fin (.int .i64 (n : Int)) ?_ (VS_int _ _)
    simp [Builtin.len_, run_underlying hT, goInt]
  · simp only [eval_fail] at he

/-! ### Data that is only looked at now -/

def Env.open (E : Env) : Env := { E with g := fun _ => .free }

theorem open_le (E : Env) : EnvLe E E.open := ⟨⟨fun _ _ _ h => ⟨h.1, trivial⟩, fun _ _ _ h => ⟨rfl, h⟩⟩, fun _ _ h => h, fun _ _ _ h => ⟨h, rfl⟩⟩

theorem peek_sound (h : Inv C g β s a w) {v : AVal} {y : Value} (hv : VS (s.env w g β) v y) {t : Ty} {x : t.den} (ht : (s.peek t v).eval = some x) :
    ∃ cs, Rep (s.env w g β).open t cs x ∧ OfCells t.agg cs y := by
  obtain ⟨cs, hV, hO⟩ := hv.celled (toTy_celled ht)
  exact ⟨cs, toTy_rep rfl h.objs (open_le _) v t x cs hV ht (fun id _ v fr c _ pl _ j x hx _ => ⟨hx, trivial⟩), by rw [← toTy_agg ht]; exact hO⟩

theorem chunks_ints {E : Env} {k : IntKind} : ∀ {vs : List Value} {l : List Int}, Chunks (Rep E (.int k)) vs l → vs = l.map (Value.int k)
  | vs, [], h => h
  | _, x :: xs, ⟨c, cs', e, hx, hr⟩ => by
    have hx' : c = [Value.int k x] := by simpa only [Rep] using hx
    rw [e, hx', chunks_ints hr]
    rfl

theorem ints_chunks {E : Env} {k : IntKind} : ∀ (l : List Int), Chunks (Rep E (.int k)) (l.map (Value.int k)) l
  | [] => rfl
  | x :: xs => ⟨[.int k x], xs.map (Value.int k), rfl, by simp [Rep], ints_chunks xs⟩

theorem foldl_push (l : List Int) : ∀ b : ByteArray, l.foldl (fun r n => r.push (UInt8.ofNat n.toNat)) b = ⟨b.data ++ (l.map fun n => UInt8.ofNat n.toNat).toArray⟩ := by
  induction l with
  | nil => intro b; simp
  | cons n l ih =>
    intro b
    rw [List.foldl_cons, ih]
    simp [ByteArray.push]

theorem push_modify {α : Type} (xs : Array α) (x : α) (f : α → α) : (xs.push x).modify xs.size f = xs.push (f x) := by
  apply Array.ext_getElem?
  intro i
  rw [Array.getElem?_modify, Array.getElem?_push, Array.getElem?_push]
  by_cases h : i = xs.size
  · subst h; simp
  · have h' : ¬ xs.size = i := fun e => h e.symm
    simp [h, h']

theorem freeze_alloc (w : World) (c : Array Value) (e : TypeId) (n : Nat) : (w.alloc (.cells c e)).freeze ⟨w.heap.size, n, none⟩ 1 = w.alloc (.cells c e (n, n + 1)) := by
  show ({ w with heap := (w.heap.push (.cells c e)).modify w.heap.size _ } : World) = { w with heap := w.heap.push (.cells c e (n, n + 1)) }
  rw [push_modify]
  rfl

theorem freeze_same {w : World} {b : Nat} {c : Array Value} {e : TypeId} {n : Nat} (h : w.heap[b]? = some (.cells c e (n, n + 1))) : w.freeze ⟨b, n, none⟩ 1 = w := by
  unfold World.freeze
  rw [if_neg (by omega)]
  have : ∀ f : Obj → Obj, f (.cells c e (n, n + 1)) = .cells c e (n, n + 1) → w.heap.modify b f = w.heap := fun f hf => by
    apply Array.ext_getElem?
    intro i
    rw [Array.getElem?_modify]
    split
    · rename_i hi; subst hi; rw [h]; simp [hf]
    · rfl
  rw [this]
  simp

theorem run_stringToBytes (e : TypeId) (st : ByteArray) (w : World) : ∃ cap : Nat, st.size ≤ cap ∧ ∃ arr : Array Value, (∀ (j : Nat) (v : Value), ((bytesOfStr st).map (Value.int .u8))[j]? = some v → arr[j]? = some v) ∧
    (Conv.stringToBytes e st).run P w = .ok (.slice (some ⟨w.heap.size, 0, none⟩) st.size cap) (w.drew.alloc (.cells arr e (arr.size, arr.size + 1))) := by
  refine ⟨(Question.appendCap st.size 0 e).cut (w.tape w.drawn (.appendCap st.size 0 e)), by simp [Question.cut],
    (st.data.map fun b => Value.int .u8 b.toNat) ++ Array.replicate ((Question.appendCap st.size 0 e).cut (w.tape w.drawn (.appendCap st.size 0 e)) - st.size) (.int .u8 0), ?_, ?_⟩
  · intro j v hj
    have hl : j < st.data.size := by
      have := (List.getElem?_eq_some_iff.1 hj).1
      simpa [bytesOfStr] using this
    rw [Array.getElem?_append, if_pos (by simpa using hl)]
    simpa [bytesOfStr, hl] using hj
  · have hs : ∀ (arr : Array Value), (markStringish ⟨w.heap.size, 0, none⟩).run P (w.drew.alloc (.cells arr e)) = .ok () (w.drew.alloc (.cells arr e (arr.size, arr.size + 1))) := by
      intro arr
      have h1 : (w.drew.alloc (.cells arr e)).shape? w.heap.size = some (e, arr.size) := by
        have h2 : (w.drew.alloc (.cells arr e)).heap[w.heap.size]? = some (.cells arr e) := alloc_at w.drew _
        simp only [World.shape?, h2]
      have h3 := freeze_alloc w.drew arr e arr.size
      have h4 : w.drew.heap.size = w.heap.size := rfl
      rw [h4] at h3
      simp only [markStringish, Sem.run_bind, run_shape, h1, Result.andThen_ok, run_freeze, h3]
    simp [Conv.stringToBytes, Question.forced, newRow, hs]

theorem Inv.kill (h : Inv C g β s a w) {id : Id} {v : Nat} {fr : Bool} {c : AVal} (hs : s.ent id = some (.obj v fr c)) {b : Nat} (hg : g b = .own (.id id) 0) {w' : World} (hos : w'.os = w.os) (htp : w'.tape = w.tape) (hout : w'.output = w.output) (hsz : w'.heap.size = w.heap.size)
    (hoth : ∀ b', b' ≠ b → w'.heap[b']? = w.heap[b']?) : Inv C (upd1 g b .free) β (s.setEnt id .dead) a w' := by
  have ht : Trans w w' g (upd1 g b .free) := by
    refine ⟨hos, htp, hout, by omega, fun b' hb' => ?_⟩
    by_cases he : b' = b
    · subst he
      rw [hg, upd1_self]
      exact ⟨.inl rfl, fun _ _ hh => by omega⟩
    · rw [upd1_other _ _ _ he, hoth b' he]
      cases hgb : g b' with
      | free => exact ⟨rfl, rfl⟩
      | own o k => cases o with
        | foreign => exact ⟨rfl, rfl⟩
        | id i => exact ⟨.inr ⟨i, k, rfl, Nat.le_refl _⟩, fun off v _ hv => by simp only [World.cell?, hoth b' he] at hv ⊢; exact hv⟩
  have hself := ent_setEnt_self s id .dead (by rw [hs]; simp)
  have hle : EnvLe (s.env w g β) ((s.setEnt id .dead).env w' (upd1 g b .free) β) := by
    refine ⟨Trans.mem ht, fun i ver hb => ?_, fun i ver hb hc => ?_⟩
    · by_cases hi : i = id
      · subst hi
        exact ⟨by show (s.setEnt i .dead).ent i ≠ none; rw [hself]; simp, fun v fr c hh => by
          have hh : (s.setEnt i .dead).ent i = some (.obj v fr c) := hh
          rw [hself] at hh; cases hh⟩
      · have := ent_setEnt_other s id i .dead hi
        obtain ⟨h1, h2⟩ := hb
        exact ⟨by show (s.setEnt id .dead).ent i ≠ none; rw [this]; exact h1, fun v fr c hh => h2 v fr c (this.symm.trans hh)⟩
    · obtain ⟨fr, c, hc⟩ := hc
      have hc : (s.setEnt id .dead).ent i = some (.obj ver fr c) := hc
      by_cases hi : i = id
      · subst hi; rw [hself] at hc; cases hc
      · rw [ent_setEnt_other s id i .dead hi] at hc
        exact ⟨⟨fr, c, hc⟩, rfl⟩
  refine h.step (slots_setEnt _ _ _) ht hle fun i ver fr c hi => ?_
  have hi : (s.setEnt id .dead).ent i = some (.obj ver fr c) := hi
  by_cases hid : i = id
  · subst hid; rw [hself] at hi; cases hi
  · rw [ent_setEnt_other s id i .dead hid] at hi
    refine (h.objs i ver fr c hi).mono hle rfl fun pl hp => ?_
    have hne := h.apart hg hid hi (pl := pl) hp
    exact ⟨hoth pl.b hne, upd1_other _ _ _ hne⟩

theorem convK_runs (h : Inv C g β s a w) {src dst : TypeId} {x : Operand} (ho : o.op = .convert src dst x) {id : Id} {ver len : Nat} (hx : s.ev x = .sref id ver [] 0 0 len) {s' : AS} (he : (convK P s o.dst src dst id ver len).eval = some s') : Runs P o a w (Sts C s') := by
  unfold convK at he
  split at he
  · rename_i v e0 l e hob hD
    split at he
    · rename_i hE
      obtain ⟨h1, h2⟩ := eval_guard.1 he
      obtain ⟨h3, h4⟩ := eval_chk.1 h2
      obtain rfl := eval_ok.1 h4
      simp only [Bool.and_eq_true, beq_iff_eq] at h1
      obtain ⟨rfl, rfl⟩ := h1
      simp only [decide_eq_true_eq] at h3
      obtain ⟨h5, h6⟩ := h3
      have hent := obj_some hob
      have hv := h.ev x
      rw [hx] at hv
      obtain ⟨ad, cap, hy, hcap, _, _, hcur⟩ := sref_of hv
      have hcur := hcur ⟨false, _, hent⟩
      have hO : ObjR (s.env w g β) id false (.vec e0 (.int .u8) l) := h.objs id v false _ hent
      obtain ⟨hz, hO⟩ := hO
      have hO : (match β id with
        | none => l = []
        | some pl => ∃ cur k, w.heap[pl.b]? = some (.cells cur e0 (0, 0)) ∧ cur.size = pl.cap * (Ty.int .u8).size ∧ l.length ≤ pl.cap ∧ pl.cap ≤ maxLen ∧ g pl.b = .own (.id id) k ∧
            k ≤ l.length * (Ty.int .u8).size ∧ (false = false → k = 0) ∧ Chunks (Rep (s.env w g β) (.int .u8)) (cur.toList.take (l.length * (Ty.int .u8).size)) l) := hO
      have hcur : (match β id with
        | some pl => (0 < len ∨ 0 = 0 → ad = some ⟨pl.b, 0, none⟩) ∧ (([] : List Stp) = [] → 0 = 0 → cap = pl.cap)
        | none => ad = none ∧ len = 0 ∧ cap = 0) := hcur
      cases hp : β id with
      | none => rw [hp] at hO; simp only at hO; subst hO; simp at h6; omega
      | some pl =>
        rw [hp] at hO hcur
        obtain ⟨cur, k, q1, q2, q3, q4, q5, q6, q7, q8⟩ := hO
        have hk := q7 rfl
        subst hk
        have had := hcur.1 (.inr rfl)
        subst had
        have hb : pl.b < w.heap.size := (Array.getElem?_eq_some_iff.1 q1).1
        have hfz : ∃ w', w.freeze ⟨pl.b, cur.size, none⟩ 1 = w' ∧ w'.heap[pl.b]? = some (.cells cur e0 (cur.size, cur.size + 1)) ∧ w'.os = w.os ∧ w'.tape = w.tape ∧ w'.output = w.output ∧ w'.heap.size = w.heap.size ∧ ∀ b', b' ≠ pl.b → w'.heap[b']? = w.heap[b']? := by
          refine ⟨_, rfl, ?_⟩
          unfold World.freeze
          rw [if_neg (by omega)]
          refine ⟨?_, rfl, rfl, rfl, by simp, fun b' hb' => ?_⟩
          · simp only [Array.getElem?_modify, if_true, q1, Option.map_some]
            rfl
          · simp only [Array.getElem?_modify]
            rw [if_neg (fun e => hb' e.symm)]
        obtain ⟨w', hw', f1, f2, f3, f4, f5, f6⟩ := hfz
        have hsh : w.shape? pl.b = some (e0, cur.size) := by simp only [World.shape?, q1]
        have hm : (markStringish ⟨pl.b, 0, none⟩).run P w = .ok () w' := by
          simp only [markStringish, Sem.run_bind, run_shape, hsh, Result.andThen_ok, run_freeze, hw']
        have i1 := h.kill hent q5 f2 f3 f4 f5 f6
        refine .inl ⟨.slice (some ⟨pl.b, 0, none⟩) len cap, w', exec_value (f := convert src src (a.eval x)) (by simp only [execOp, ho]) ?_, _, β, i1.put o.dst ⟨_, ?_, rfl⟩⟩
        · rw [hy]
          simp [convert, run_underlying hD, run_underlying hE, hm]
        · have hvs := chunks_ints q8
          have hone : (Ty.int .u8).size = 1 := rfl
          rw [hone, Nat.mul_one] at hvs
          simp only [V, Rep]
          refine ⟨_, cap, l.map (Value.int .u8), by rw [h6], by rw [← h6]; exact hcap, fun _ => rfl, fun j vv hj => ⟨_, _, rfl, ?_, ?_⟩, ints_chunks (E := (s.setEnt id .dead).env w' (upd1 g pl.b .free) β) _⟩
          · rw [Nat.zero_add]
            show w'.cell? ⟨pl.b, j, none⟩ = some vv
            simp only [World.cell?, f1]
            rw [← hvs, List.getElem?_take] at hj
            split at hj
            · simpa using hj
            · cases hj
          · show okAt (upd1 g pl.b .free) pl.b (0 + j)
            unfold okAt
            rw [upd1_self]
            trivial
    · simp only [eval_fail] at he
  · simp only [eval_fail] at he

theorem conv_sb (h : Inv C g β s a w) {src dst : TypeId} {x : Operand} (ho : o.op = .convert src dst x) {l : List Int} (hl : s.ev x = .sb l) {v : AVal} (he : (convS P src dst l).eval = some v) : Runs P o a w (Sts C (s.put o.dst v)) := by
  have hx := h.ev x
  have fin : ∀ z, (convert src dst (a.eval x)).run P w = .ok z w → VS (s.env w g β) v z → Runs P o a w (Sts C (s.put o.dst v)) := by
    intro z h1 h2
    exact h.value h2 (exec_value (f := convert src dst (a.eval x)) (by simp only [execOp, ho]) h1)
  unfold convS at he
  split at he
  · rename_i e e' hD hS
    rw [hl] at hx
    split at he
    · rename_i hE
      obtain ⟨h1, h2⟩ := eval_guard.1 he
      obtain rfl := eval_ok.1 h2
      have h1 : src = dst := by simpa using h1
      subst h1
      obtain ⟨cs, hv, hO⟩ := hx
      simp only [V] at hv
      obtain ⟨b, cap, arr, e2, hcs, hcap, hfr, hb, harr⟩ := hv
      have hO' : cs = [a.eval x] := hO
      rw [hcs] at hO'
      have hy : a.eval x = .slice (some ⟨b, 0, none⟩) l.length cap := by simpa using hO'.symm
      rw [hD] at hS
      obtain rfl : e = e' := by simpa using hS
      refine fin (.slice (some ⟨b, 0, none⟩) l.length cap) ?_ ⟨_, ?_, rfl⟩
      · rw [hy]
        have hb : w.heap[b]? = some (.cells arr e2 (arr.size, arr.size + 1)) := hb
        have hfz := freeze_same hb
        have hsh : w.shape? b = some (e2, arr.size) := by simp only [World.shape?, hb]
        have hm : (markStringish ⟨b, 0, none⟩).run P w = .ok () w := by
          simp only [markStringish, Sem.run_bind, run_shape, hsh, Result.andThen_ok, run_freeze, hfz]
        simp [convert, run_underlying hD, run_underlying hE, hm]
      · simp only [V, Rep]
        refine ⟨_, cap, l.map (Value.int .u8), rfl, hcap, fun _ => rfl, fun j v hj => ⟨_, _, rfl, ?_, ?_⟩, ints_chunks (E := s.env w g β) _⟩
        · rw [Nat.zero_add]
          show w.cell? ⟨b, j, none⟩ = some v
          have hb : w.heap[b]? = some (.cells arr e2 (arr.size, arr.size + 1)) := hb
          simp only [World.cell?, hb]
          simpa using harr j v hj
        · show okAt g b (0 + j)
          unfold okAt
          have hfr : g b = .free := hfr
          rw [hfr]
          trivial
    · simp only [eval_fail] at he
  · simp only [eval_fail] at he

theorem convert_runs (h : Inv C g β s a w) {obj : Bool} {src dst : TypeId} {x : Operand} (ho : o.op = .convert src dst x) {v : AVal} (he : (convA P s obj src dst (s.ev x)).eval = some v) : Runs P o a w (Sts C (s.put o.dst v)) := by
  have hx := h.ev x
  have fin : ∀ z, (convert src dst (a.eval x)).run P w = .ok z w → VS (s.env w g β) v z → Runs P o a w (Sts C (s.put o.dst v)) := by
    intro z h1 h2
    exact h.value h2 (exec_value (f := convert src dst (a.eval x)) (by simp only [execOp, ho]) h1)
  unfold convA at he
  split at he
  · rename_i l hl
    exact conv_sb h ho hl he
  rename_i hl0
  unfold convB at he
  split at he
  · rename_i k n k' d hl hD hS
    rw [hl] at hx
    obtain rfl := eval_ok.1 he
    refine fin (.int k' (k'.wrap n)) ?_ (VS_int _ _)
    rw [int_of hx]
    simp [convert, run_underlying hD, run_underlying hS, Conv.intToInt]
  · rename_i st d hl hD hS
    rw [hl] at hx
    obtain rfl := eval_ok.1 he
    refine fin (.string st) ?_ (VS_str _)
    rw [str_of hx]
    simp [convert, run_underlying hD, run_underlying hS]
  · rename_i st e d hl hD hS
    rw [hl] at hx
    split at he
    · rename_i hE
      obtain ⟨cap, hcap, arr, harr, hrun⟩ := run_stringToBytes (P := P) e st w
      have i1 := (h.drew).allocFree (.cells arr e (arr.size, arr.size + 1))
      have hlen : (bytesOfStr st).length = st.size := by simp only [bytesOfStr, List.length_map, Array.length_toList]; rfl
      have h2 := alloc_at w.drew (.cells arr e (arr.size, arr.size + 1))
      have hex : (execOp a.eval o).run P w = .ok (.value (.slice (some ⟨w.heap.size, 0, none⟩) st.size cap)) (w.drew.alloc (.cells arr e (arr.size, arr.size + 1))) := by
        refine exec_value (f := convert src dst (a.eval x)) (by simp only [execOp, ho]) ?_
        rw [str_of hx]
        simp [convert, run_underlying hD, run_underlying hS, run_underlying hE, hrun]
      have hfree : upd1 g w.drew.heap.size .free w.heap.size = .free := by
        rw [show w.drew.heap.size = w.heap.size from rfl, upd1_self]
      cases obj with
      | false =>
        obtain rfl := eval_ok.1 he
        refine .inl ⟨_, _, hex, _, β, i1.put o.dst ⟨_, ?_, rfl⟩⟩
        simp only [V, Rep]
        refine ⟨_, cap, (bytesOfStr st).map (Value.int .u8), by rw [hlen], by omega, fun _ => rfl, fun j v hj => ⟨_, _, rfl, ?_, ?_⟩, ints_chunks (E := s.env (w.drew.alloc (.cells arr e (arr.size, arr.size + 1))) (upd1 g w.drew.heap.size .free) β) _⟩
        · have := harr j v hj
          rw [Nat.zero_add]
          show (w.drew.alloc (.cells arr e (arr.size, arr.size + 1))).cell? ⟨w.drew.heap.size, j, none⟩ = some v
          simp only [World.cell?, h2]
          simpa using this
        · show okAt (upd1 g w.drew.heap.size .free) w.heap.size (0 + j)
          unfold okAt
          rw [hfree]
          trivial
      | true =>
        obtain rfl := eval_ok.1 he
        refine .inl ⟨_, _, hex, _, β, i1.put o.dst ⟨_, ?_, rfl⟩⟩
        simp only [V]
        exact ⟨w.heap.size, cap, arr, e, by rw [hlen], by omega, hfree, h2, harr⟩
    · simp only [eval_fail] at he
  · rename_i e hD hS hne
    clear hne
    split at he
    · rename_i hE
      obtain ⟨l, h1, h2⟩ := eval_bind.1 he
      obtain rfl := eval_ok.1 h2
      obtain ⟨cs, hR, hO⟩ := peek_sound h hx h1
      simp only [Rep] at hR
      obtain ⟨ad, cap, vs, rfl, hlc, hsome, hrow, hch⟩ := hR
      have hO' : [Value.slice ad (List.length l) cap] = [a.eval x] := hO
      have hy : a.eval x = .slice ad (List.length l) cap := by simpa using hO'.symm
      refine fin (.string (strOfBytes l)) ?_ (VS_str _)
      rw [hy, run_convert_bytes_string w src dst e ad _ _ hS hE hD]
      have hvs := chunks_ints (E := (s.env w g β).open) (k := .u8) (vs := vs) (l := l) hch
      cases ad with
      | none =>
        have hl0 : l = [] := by
          cases l with
          | nil => rfl
          | cons _ _ => simp at hsome
        subst hl0
        rfl
      | some ad =>
        have hload : (loadCells ad (List.length l)).run P w = .ok (l.map (Value.int .u8)).toArray w := by
          have := run_loadCells_list (P := P) w ad (l.map (Value.int .u8)) (fun j v hj => by
            rw [← hvs] at hj
            obtain ⟨bb, off, e1, hh⟩ := hrow j v hj
            simp only [Option.some.injEq] at e1
            subst e1
            rw [Addr.add_lit]
            exact hh.1)
          simpa using this
        rw [run_bytesToString w ad _ _ l hload, foldl_push]
        simp [strOfBytes]
    · simp only [eval_fail] at he
  · simp only [eval_fail] at he

end
end Go.Ab

/-
  Soundness of the operations, eighth part: composites, new slices, append.
-/
namespace Go.Ab

section
variable {P : Program} {C : Ctx} {g : Nat → Lab} {β : Id → Option Pl} {s : AS} {a : Act} {w : World} {o : Oper}

theorem foldl_put (off : Nat) : ∀ (vs : List Value) (k : Nat) (cells : Array Value), off + k + vs.length ≤ cells.size →
    ((vs.zipIdx k).foldl (fun cs (c, j) => cs.setIfInBounds (off + j) c) cells).toList = splice cells.toList (off + k) vs
  | [], k, cells, _ => by simp [splice]
  | v :: vs, k, cells, h => by
    simp only [List.length_cons] at h
    rw [List.zipIdx_cons, List.foldl_cons, foldl_put off vs (k + 1) _ (by simpa using (by omega : off + (k + 1) + vs.length ≤ cells.size))]
    rw [Array.toList_setIfInBounds]
    have := list_seg_step cells.toList (off + k) v vs (by simp; omega)
    unfold splice
    simpa [Nat.add_assoc] using this

theorem fill_step {place : Nat → Option (Nat × Nat)} {cells : Array Value} {i off : Nat} {v : Value} {vs : List Value} {rest : List (Nat × Value)} (hp : place i = some (off, vs.length)) (hv : v.cells = vs.toArray) (hl : off + vs.length ≤ cells.size) :
    Instr.fill place cells ((i, v) :: rest) = Instr.fill place (splice cells.toList off vs).toArray rest := by
  have h1 : v.cells.size = vs.length := by rw [hv]; simp
  have h2 : ¬ (v.cells.size ≠ vs.length || off + v.cells.size > cells.size) = true := by simp [h1]; omega
  simp only [Instr.fill, hp]
  rw [if_neg h2]
  congr 1
  apply Array.ext'
  have := foldl_put off vs 0 cells (by omega)
  simp only [Nat.add_zero] at this
  rw [← this, hv]
  rw [← Array.foldl_toList]
  simp

/-- Parts laid into a row of elements. -/
theorem setParts_fill {E E' : Env} (hs : E.s = s.ent) (ho : Objs E) (he : EnvLe E E') {t : Ty} (hev : ∀ x, VS E (s.ev x) (a.eval x)) :
    ∀ (ps : List (Nat × Operand)) (l : List t.den) (r : List t.den × List Id) (cells : Array Value), (setParts t s ps l).eval = some r → Frz E E' r.2 → Chunks (Rep E' t) cells.toList l →
      ∃ cells', Instr.fill (fun i => some (i * t.size, t.size)) cells (ps.map fun (i, x) => (i, a.eval x)) = some cells' ∧ Chunks (Rep E' t) cells'.toList r.1
  | [], l, r, cells, h, _, hc => by
    obtain rfl := eval_ok.1 h
    exact ⟨cells, rfl, hc⟩
  | (i, x) :: ps, l, r, cells, h, hf, hc => by
    simp only [setParts] at h
    obtain ⟨h1, h2⟩ := eval_guard.1 h
    obtain ⟨y, h3, h4⟩ := eval_bind.1 h2
    obtain ⟨r', h5, h6⟩ := eval_bind.1 h4
    obtain rfl := eval_ok.1 h6
    have hi : i < l.length := by simpa using h1
    obtain ⟨cs, hV, hO⟩ := (hev x).celled (toTy_celled h3)
    have hR := toTy_rep hs ho he _ t y cs hV h3 (fun id hid => hf id (by simp [hid]))
    have hcell := hO.cells hV.one
    have hlen := hc.length (fun _ _ hx => Rep.size hx)
    have hsz := hR.size
    have hle : i * t.size + cs.length ≤ cells.size := by
      have := Nat.mul_le_mul_right t.size (show i + 1 ≤ l.length by omega)
      rw [Nat.add_mul, Nat.one_mul] at this
      simp at hlen
      omega
    have hset := Chunks.set (fun _ _ hx => Rep.size hx) hc i hi hR
    obtain ⟨cells', q1, q2⟩ := setParts_fill hs ho he hev ps (l.set i y) r' (splice cells.toList (i * t.size) cs).toArray h5 (fun id hid => hf id (by simp [hid])) hset
    refine ⟨cells', ?_, q2⟩
    rw [List.map_cons, fill_step (by rw [hsz]) hcell hle]
    exact q1

theorem range_zero_chunks {E : Env} {t : Ty} {zc : Array Value} (hz : Rep E t zc.toList t.zero) : ∀ n : Nat, Chunks (Rep E t) (madeCells zc (n * t.size)).toList (List.replicate n t.zero) := by
  have hsz : zc.size = t.size := by have := hz.size; simpa using this
  intro n
  induction n with
  | zero => simp [madeCells, Chunks]
  | succ n ih =>
    have e : (madeCells zc ((n + 1) * t.size)).toList = (madeCells zc (n * t.size)).toList ++ zc.toList := by
      apply List.ext_getElem?
      intro j
      rw [Nat.add_mul, Nat.one_mul]
      simp only [madeCells, Array.toList_map, Array.toList_range, List.getElem?_map, List.getElem?_append, List.length_map, List.length_range]
      by_cases hj : j < n * t.size
      · have hj' : j < n * t.size + t.size := by omega
        simp [hj, hj', hsz]
      · by_cases hj' : j < n * t.size + t.size
        · have hlt : j - n * t.size < zc.size := by omega
          have hm : j % t.size = j - n * t.size := by
            have : j = (j - n * t.size) + t.size * n := by rw [Nat.mul_comm t.size n]; omega
            rw [this, Nat.add_mul_mod_self_left, Nat.mod_eq_of_lt (by omega)]
            rw [Nat.mul_comm t.size n]; omega
          simp [hj, hj', hsz, hm]
          rw [getElem?_pos zc _ hlt, getElem!_pos zc _ hlt]
        · have h1 : ¬ j - n * t.size < zc.size := by omega
          simp [hj, hj', h1]
    rw [e, List.replicate_succ']
    exact Chunks.append ih (Chunks.one hz)

theorem elemOfT_sound {T : TypeId} {e : TypeId} {t : Ty} {b : Nat} (h : elemOfT P T = some (e, t, b)) :
    P.underlying T = some (.slice e) ∧ 0 < t.size ∧ ∃ i zv, P.info? e = some i ∧ i.size = t.size ∧ i.bytes = b ∧ i.zero = some zv ∧ ∀ E, Rep E t zv.cells.toList t.zero := by
  unfold elemOfT at h
  split at h
  · rename_i e' hT
    split at h
    · rename_i t' ht
      split at h
      · rename_i hg
        simp only [Option.some.injEq, Prod.mk.injEq] at h
        obtain ⟨rfl, rfl, rfl⟩ := h
        simp only [Bool.and_eq_true, Bool.not_eq_true', beq_iff_eq, beq_eq_false_iff_ne] at hg
        obtain ⟨⟨h1, h2⟩, h3⟩ := hg
        obtain ⟨i, zv, hi, hz, _, _⟩ := zchk_sound h3 { w := default, g := fun _ => .free, β := fun _ => none, s := fun _ => none }
        refine ⟨hT, by omega, i, zv, hi, by rw [← cellsOf_eq hi]; exact h1, by simp [Program.bytesOf, hi], hz, fun E => ?_⟩
        obtain ⟨i', zv', hi', hz', hV, _⟩ := zchk_sound h3 E
        rw [hi] at hi'
        obtain rfl : i = i' := by simpa using hi'
        rw [hz] at hz'
        obtain rfl : zv = zv' := by simpa using hz'
        simpa only [V] using hV
      · cases h
    · cases h
  · cases h

/-- A new slice of one's own. -/
theorem Inv.newVec (h : Inv C g β s a w) {q : Nat} (hq : s.virgin q = true) {e : TypeId} {t : Ty} {l : List t.den} {cur : Array Value} {cap : Nat} (hz : 0 < t.size) (hc : Chunks (Rep (s.env w g β) t) (cur.toList.take (l.length * t.size)) l)
    (hs : cur.size = cap * t.size) (hl : l.length ≤ cap) (hm : cap ≤ maxLen) :
    ∃ g' β', Inv C g' β' (s.born q [.obj 0 false (.vec e t l)]) a (w.alloc (.cells cur e)) ∧
      VS ((s.born q [.obj 0 false (.vec e t l)]).env (w.alloc (.cells cur e)) g' β') (.sref (.new q 0) 0 [] 0 0 l.length) (.slice (some ⟨w.heap.size, 0, none⟩) l.length cap) := by
  have ht := Trans.alloc w g (.cells cur e) (.own (.id (.new q 0)) 0)
  obtain ⟨h1, h2⟩ := h.bornAt hq (c := .vec e t l) (p := some ⟨w.heap.size, cap⟩) ht (fun b hb => ⟨alloc_lt w _ hb, upd1_other _ _ _ (by omega)⟩) (fun he => by
    refine ⟨hz, ?_⟩
    show (match updI β (.new q 0) (some ⟨w.heap.size, cap⟩) (.new q 0) with
      | none => l = []
      | some pl => _)
    rw [updI_self]
    exact ⟨cur, 0, alloc_at w _, hs, hl, hm, upd1_self _ _ _, Nat.zero_le _, fun _ => rfl, hc.mono fun _ _ hx => hx.mono he.mem⟩)
  refine ⟨_, _, h1, _, ?_, rfl⟩
  simp only [V]
  refine ⟨_, _, rfl, hl, fun _ => rfl, env_cur_born hq _ _ _ _, fun _ => ?_⟩
  show (match updI β (.new q 0) (some ⟨w.heap.size, cap⟩) (.new q 0) with
      | some pl => _
      | none => _)
  rw [updI_self]
  exact ⟨fun _ => rfl, fun _ _ => rfl⟩

/-- A slice of one's own that is nil. -/
theorem Inv.nilVec (h : Inv C g β s a w) {q : Nat} (hq : s.virgin q = true) {e : TypeId} {t : Ty} (hz : 0 < t.size) :
    ∃ β', Inv C g β' (s.born q [.obj 0 false (.vec e t [])]) a w ∧ EnvLe (s.env w g β) ((s.born q [.obj 0 false (.vec e t [])]).env w g β') ∧
      VS ((s.born q [.obj 0 false (.vec e t [])]).env w g β') (.sref (.new q 0) 0 [] 0 0 0) (.slice none 0 0) := by
  have ht := Trans.refl w g
  obtain ⟨h1, h2⟩ := h.bornAt hq (c := .vec e t []) (p := none) ht (fun b hb => ⟨rfl, rfl⟩) (fun he => by
    refine ⟨hz, ?_⟩
    show (match updI β (.new q 0) none (.new q 0) with
      | none => ([] : List t.den) = []
      | some pl => _)
    rw [updI_self])
  refine ⟨_, h1, h2, _, ?_, rfl⟩
  simp only [V]
  refine ⟨_, _, rfl, Nat.le_refl _, fun hh => by omega, env_cur_born hq _ _ _ _, fun _ => ?_⟩
  simp [AS.env]

theorem map_parts (parts : Array (Nat × Operand)) : (parts.map fun (i, x) => (i, a.eval x)).toList = parts.toList.map fun (i, x) => (i, a.eval x) := by simp

theorem buildSlice_runs (h : Inv C g β s a w) {T : TypeId} {n : Nat} {parts : Array (Nat × Operand)} {obj : Bool} (ho : o.op = .buildSlice T n parts) {s' : AS} (he : (buildSliceA P s obj o.dst T n parts.toList).eval = some s') : Runs P o a w (Sts C s') := by
  unfold buildSliceA at he
  split at he
  · rename_i e t b q hel hd
    obtain ⟨hT, hz, i, zv, hi, his, hib, hzv, hzr⟩ := elemOfT_sound hel
    obtain ⟨h1, h2⟩ := eval_guard.1 he
    obtain ⟨r, h3, h4⟩ := eval_bind.1 h2
    simp only [decide_eq_true_eq] at h1
    obtain ⟨g1, i1, e1, t1, f1⟩ := freezeAll_sound r.2 h
    have hzc : zv.cells.size = t.size := by have := (hzr (s.env w g β)).size; simpa using this
    obtain ⟨cells', hfill, hch⟩ := setParts_fill (a := a) rfl h.objs e1 h.ev parts.toList _ r (madeCells zv.cells (n * t.size)) h3 f1 (range_zero_chunks (hzr _) n)
    have hlr : r.1.length = n := by
      have : ∀ (ps : List (Nat × Operand)) (l : List t.den) (r : List t.den × List Id), (setParts t s ps l).eval = some r → r.1.length = l.length := by
        intro ps
        induction ps with
        | nil => intro l r hh; obtain rfl := eval_ok.1 hh; rfl
        | cons p ps ih =>
          intro l r hh
          obtain ⟨i, x⟩ := p
          simp only [setParts] at hh
          obtain ⟨_, h2⟩ := eval_guard.1 hh
          obtain ⟨y, h3, h4⟩ := eval_bind.1 h2
          obtain ⟨r', h5, h6⟩ := eval_bind.1 h4
          obtain rfl := eval_ok.1 h6
          have := ih _ _ h5
          simpa using this
      rw [this _ _ _ h3]
      simp
    have hcl := hch.length (fun _ _ hx => Rep.size hx)
    have hrun : (execOp a.eval o).run P w = .ok (.value (.slice (some ⟨w.heap.size, 0, none⟩) n n)) (w.alloc (.cells cells' e)) := by
      refine exec_value (f := Instr.buildSlice T n (parts.map fun (i, x) => (i, a.eval x))) (by simp only [execOp, ho]) ?_
      have hbig : ¬ n * t.size > 2 ^ 24 := by omega
      have hfill' : Instr.fill (fun i => some (i * t.size, t.size)) ((Array.range (n * t.size)).map (fun x => (zv.cells)[x % zv.cells.size]!)) (parts.map fun (i, x) => (i, a.eval x)).toList = some cells' := by
        rw [map_parts]; exact hfill
      by_cases hn : n * t.size = 0
      · have hn0 : n = 0 := by
          rcases Nat.mul_eq_zero.1 hn with h' | h'
          · exact h'
          · omega
        subst hn0
        simp only [Nat.zero_mul] at hfill' hbig
        have h0 : Array.range 0 = #[] := rfl
        rw [h0, Array.map_empty] at hfill'
        simp at hfill'
        simp [Instr.buildSlice, run_underlying hT, run_sizeOf hi, his, newRow, h0, hfill']
      · simp [Instr.buildSlice, run_underlying hT, run_sizeOf hi, his, newRow, hn, hbig, zeroValue, typeInfo, hi, hzv]
        simp at hfill'
        simp [hfill']
    cases obj with
    | true =>
      simp only at h4
      obtain ⟨hq, h5⟩ := eval_guard.1 h4
      obtain rfl := eval_ok.1 h5
      rw [← virgin_freezeAll r.2] at hq
      have hfull : cells'.toList.take (r.1.length * t.size) = cells'.toList := List.take_of_length_le (by omega)
      obtain ⟨g2, β2, i2, hv2⟩ := i1.newVec hq (e := e) (l := r.1) (cur := cells') (cap := n) hz (by rw [hfull]; exact hch) (by simp at hcl; rw [hcl, hlr]) (by omega) (by
        have : n ≤ n * t.size := Nat.le_mul_of_pos_right n hz
        unfold maxLen; omega)
      refine .inl ⟨_, _, hrun, g2, β2, ?_⟩
      rw [hd]
      rw [hlr] at hv2 ⊢
      exact i2.put (some q) hv2
    | false =>
      simp only at h4
      obtain rfl := eval_ok.1 h4
      have i2 := i1.allocFree (.cells cells' e)
      refine .inl ⟨_, _, hrun, upd1 g1 w.heap.size .free, β, ?_⟩
      rw [hd]
      refine i2.put (some q) ⟨[.slice (some ⟨w.heap.size, 0, none⟩) n n], ?_, rfl⟩
      simp only [V, Rep]
      refine ⟨_, n, cells'.toList, by rw [hlr], by omega, fun _ => rfl, fun j v hj => ⟨_, _, rfl, ?_, ?_⟩, hch.mono fun _ _ hx => hx.mono (Trans.mem (E := (s.freezeAll r.2).env w g1 β) (E' := (s.freezeAll r.2).env (w.alloc (.cells cells' e)) (upd1 g1 w.heap.size .free) β) (Trans.alloc w g1 (.cells cells' e) .free))⟩
      · show (w.alloc (.cells cells' e)).cell? ⟨w.heap.size, 0 + j, none⟩ = some v
        rw [World.cell?_alloc_new, Nat.zero_add]; simpa using hj
      · show okAt (upd1 g1 w.heap.size .free) w.heap.size (0 + j)
        unfold okAt; rw [upd1_self]; trivial
  · simp only [eval_fail] at he

theorem makeSlice_runs (h : Inv C g β s a w) {T : TypeId} {x y : Operand} (ho : o.op = .makeSlice T x y) {len cap : Int} (hx : (asInt (s.ev x)).eval = some len) (hy : (asInt (s.ev y)).eval = some cap) {s' : AS}
    (he : (makeSliceA P s o.dst T len cap).eval = some s') : Runs P o a w (Sts C s') := by
  obtain ⟨k, hx⟩ := asInt_of (h.ev x) hx
  obtain ⟨k', hy⟩ := asInt_of (h.ev y) hy
  unfold makeSliceA at he
  split at he
  · rename_i e t b q hel hd
    obtain ⟨hT, hz, i, zv, hi, his, hib, hzv, hzr⟩ := elemOfT_sound hel
    obtain ⟨hq, h2⟩ := eval_guard.1 he
    obtain ⟨h3, h4⟩ := eval_chk.1 h2
    obtain rfl := eval_ok.1 h4
    simp only [Bool.and_eq_true, decide_eq_true_eq, roomA] at h3
    obtain ⟨⟨h5, h6⟩, h7, h8⟩ := h3
    have hbytes : (i.bytes : Int) * cap ≤ 281474976710656 := by
      rw [hib]
      have : ((cap.toNat * b : Nat) : Int) ≤ 140737488355328 := by omega
      rw [Int.natCast_mul, show ((cap.toNat : Nat) : Int) = cap by omega, Int.mul_comm] at this
      omega
    have hr := run_make (P := P) w T e i zv hT hi hzv k k' len cap h5 h6 hbytes (by omega)
    rw [his] at hr
    have hzc : zv.cells.size = t.size := by have := (hzr (s.env w g β)).size; simpa using this
    have hall := range_zero_chunks (hzr (s.env w g β)) cap.toNat
    have htk := Chunks.take (fun _ _ hx => Rep.size hx) len.toNat hall
    rw [List.take_replicate, Nat.min_eq_left (by omega)] at htk
    obtain ⟨g2, β2, i2, hv2⟩ := h.newVec hq (e := e) (l := List.replicate len.toNat t.zero) (cur := madeCells zv.cells (cap.toNat * t.size)) (cap := cap.toNat) hz (by rw [List.length_replicate]; exact htk) (size_madeCells _ _) (by rw [List.length_replicate]; omega) (by unfold maxLen; omega)
    rw [List.length_replicate] at hv2
    refine .inl ⟨_, _, exec_value (f := Instr.makeSlice T (a.eval x) (a.eval y)) (by simp only [execOp, ho]) (by rw [hx, hy]; exact hr), g2, β2, ?_⟩
    rw [hd]
    exact i2.put (some q) hv2
  · simp only [eval_fail] at he

end
end Go.Ab
/-
  Soundness of the operations, ninth part: structs and arrays that are built; append.
-/
namespace Go.Ab

section
variable {P : Program} {C : Ctx} {g : Nat → Lab} {β : Id → Option Pl} {s : AS} {a : Act} {w : World} {o : Oper}

/-! ### Building -/

theorem partOf_loc : ∀ (c : AVal) (f off : Nat) (v : AVal), partOf c f = some (off, v) → (loc c (fieldPath f)).eval = some (off, v) := by
  intro c f
  induction f generalizing c with
  | zero =>
    intro off v h
    cases c with
    | d t y =>
      cases t <;> simp only [partOf, reduceCtorEq] at h
      simp only [Option.some.injEq, Prod.mk.injEq] at h
      obtain ⟨rfl, rfl⟩ := h
      rfl
    | pr b c =>
      simp only [partOf, Option.some.injEq, Prod.mk.injEq] at h
      obtain ⟨rfl, rfl⟩ := h
      simp only [fieldPath, loc]
      cases b <;> rfl
    | _ => simp only [partOf, reduceCtorEq] at h
  | succ f ih =>
    intro off v h
    cases c with
    | d t y =>
      cases t with
      | pair ta tb =>
        simp only [partOf] at h
        cases hp : partOf (.d tb y.2) f with
        | none => rw [hp] at h; cases h
        | some r =>
          rw [hp] at h
          simp only [Option.some.injEq, Prod.mk.injEq] at h
          obtain ⟨rfl, rfl⟩ := h
          simp only [fieldPath, loc, eval_bind]
          exact ⟨_, ih _ _ _ hp, rfl⟩
      | _ => simp only [partOf, reduceCtorEq] at h
    | pr b c =>
      simp only [partOf] at h
      cases hp : partOf c f with
      | none => rw [hp] at h; cases h
      | some r =>
        rw [hp] at h
        simp only [Option.some.injEq, Prod.mk.injEq] at h
        obtain ⟨rfl, rfl⟩ := h
        simp only [fieldPath, loc, eval_bind]
        exact ⟨_, ih _ _ _ hp, rfl⟩
    | _ => simp only [partOf, reduceCtorEq] at h

theorem mkPr_agg (a b : AVal) : (mkPr a b).agg = true := by unfold mkPr; split <;> rfl

theorem upd_field_agg {v x v' : AVal} {i : Nat} (h : (upd v (fieldPath i) x).eval = some v') : v'.agg = true := by
  have fin : ∀ {o : Out AVal} {f : AVal → AVal}, (∀ a, (f a).agg = true) → (o.bind fun a => Out.ok (f a)).eval = some v' → v'.agg = true := by
    intro o f hf hh
    obtain ⟨_, _, h2⟩ := eval_bind.1 hh
    obtain rfl := eval_ok.1 h2
    exact hf _
  cases i <;> simp only [fieldPath] at h
  all_goals
    cases v with
    | d t y => cases t <;> first | (simp only [upd, eval_fail] at h; done) | (simp only [upd] at h; exact fin (fun _ => mkPr_agg _ _) h)
    | pr b c => simp only [upd] at h; exact fin (fun _ => mkPr_agg _ _) h
    | _ => simp only [upd, eval_fail] at h

theorem setFields_fill {E : Env} (hev : ∀ x, VS E (s.ev x) (a.eval x)) {fs : Array Field} {places : Array (Nat × Nat)} (hpl : ∀ (i : Nat) (f : Field), fs[i]? = some f → places[i]? = some (f.offset, P.cellsOf f.type)) :
    ∀ (ps : List (Nat × Operand)) (v v' : AVal) (cells : Array Value), (setFields P fs s ps v).eval = some v' → V E v cells.toList → v.agg = true →
      ∃ cells', Instr.fill (places[·]?) cells (ps.map fun (i, x) => (i, a.eval x)) = some cells' ∧ V E v' cells'.toList ∧ v'.agg = true
  | [], v, v', cells, h, hV, hag => by
    obtain rfl := eval_ok.1 h
    exact ⟨cells, rfl, hV, hag⟩
  | (i, x) :: ps, v, v', cells, h, hV, hag => by
    simp only [setFields] at h
    split at h
    · rename_i f off old hf hp
      obtain ⟨h1, h2⟩ := eval_guard.1 h
      obtain ⟨v1, h3, h4⟩ := eval_bind.1 h2
      simp only [Bool.and_eq_true, beq_iff_eq] at h1
      obtain ⟨⟨rfl, hfo⟩, hfx⟩ := h1
      obtain ⟨hcel, _⟩ := fits_sound hfx
      obtain ⟨cs, hVx, hO⟩ := (hev x).celled hcel
      have hcells := hO.cells hVx.one
      have hloc := partOf_loc _ _ _ _ hp
      obtain ⟨u1, u2, u3⟩ := upd_sound (fieldPath i) v cells.toList f.offset old (s.ev x) v1 cs (VO.of hV) hloc hVx h3
      have hnv : v1.isVec = false := u3.notVec hV.notVec
      have hsz : P.cellsOf f.type = cs.length := by rw [(fits_isAggT hfx).2.1]; exact hVx.size.symm
      obtain ⟨cells', q1, q2, q3⟩ := setFields_fill hev hpl ps v1 v' (splice cells.toList f.offset cs).toArray h4 (by simpa using u2.to hnv) (upd_field_agg h3)
      refine ⟨cells', ?_, q2, q3⟩
      rw [List.map_cons, fill_step (by rw [hpl i f hf, hsz]) hcells (by simpa using u1)]
      exact q1
    · simp only [eval_fail] at h

theorem run_mapM {α γ : Type} (f : α → Sem γ) (r : α → γ) : ∀ (l : List α), (∀ x ∈ l, (f x).run P w = .ok (r x) w) → (l.mapM f).run P w = .ok (l.map r) w
  | [], _ => by simp
  | x :: xs, h => by
    rw [List.mapM_cons]
    simp only [Sem.run_bind, h x (by simp), Result.andThen_ok, run_mapM f r xs (fun y hy => h y (by simp [hy])), Sem.run_pure, List.map_cons]

theorem build_runs (h : Inv C g β s a w) {T : TypeId} {parts : Array (Nat × Operand)} (ho : o.op = .build T parts) {s' : AS} (he : (buildA P s o.dst T parts.toList).eval = some s') : Runs P o a w (Sts C s') := by
  unfold buildA at he
  split at he
  · rename_i fs hT
    split at he
    · rename_i z hzo
      obtain ⟨h1, h2⟩ := eval_guard.1 he
      obtain ⟨v, h3, h4⟩ := eval_bind.1 h2
      obtain rfl := eval_ok.1 h4
      simp only [Bool.and_eq_true, List.all_eq_true] at h1
      obtain ⟨⟨hz, hag⟩, hinf⟩ := h1
      obtain ⟨i, zv, hi, hzv, hV, hO⟩ := zchk_sound hz (s.env w g β)
      let places : Array (Nat × Nat) := fs.map fun f => (f.offset, P.cellsOf f.type)
      have hpl : ∀ (i : Nat) (f : Field), fs[i]? = some f → places[i]? = some (f.offset, P.cellsOf f.type) := by
        intro i f hf
        simp [places, hf]
      obtain ⟨cells', q1, q2, q3⟩ := setFields_fill (a := a) h.ev hpl parts.toList z v zv.cells h3 hV hag
      have hm : (fs.mapM fun f => (do pure (f.offset, ← sizeOf f.type) : Sem (Nat × Nat))).run P w = .ok places w := by
        rw [Array.mapM_eq_mapM_toList]
        have := run_mapM (P := P) (w := w) (fun f => (do pure (f.offset, ← sizeOf f.type) : Sem (Nat × Nat))) (fun f => (f.offset, P.cellsOf f.type)) fs.toList (by
          intro f hf
          obtain ⟨j, hj⟩ := Option.isSome_iff_exists.1 (hinf f hf)
          rw [Sem.run_bind, run_sizeOf hj, cellsOf_eq hj]
          rfl)
        rw [Sem.run_map, this]
        show Result.ok _ w = Result.ok _ w
        congr 1
        apply Array.ext'
        simp [places]
      refine h.value (x := .agg cells') (VS.of q2 (by rw [q3]; simp [OfCells])) (exec_value (f := Instr.build T (parts.map fun (i, x) => (i, a.eval x))) (by simp only [execOp, ho]) ?_)
      have q1' : Instr.fill (places[·]?) zv.cells (parts.map fun (i, x) => (i, a.eval x)).toList = some cells' := by rw [map_parts]; exact q1
      simp only [Instr.build, Sem.run_bind, zeroValue, typeInfo, run_program, hi, Result.andThen_ok, Sem.run_pure, hzv, run_underlying hT, hm, q1']
    · simp only [eval_fail] at he
  · rename_i n e hT
    split at he
    · rename_i t ht
      obtain ⟨h1, h2⟩ := eval_guard.1 he
      obtain ⟨r, h3, h4⟩ := eval_bind.1 h2
      obtain rfl := eval_ok.1 h4
      simp only [Bool.and_eq_true, beq_iff_eq] at h1
      obtain ⟨hsz, hz⟩ := h1
      obtain ⟨g1, i1, e1, t1, f1⟩ := freezeAll_sound r.2 h
      obtain ⟨i, zv, hi, hzv, hV, hO⟩ := zchk_sound hz ((s.freezeAll r.2).env w g1 β)
      simp only [V, Rep] at hV
      obtain ⟨cells', q1, q2⟩ := setParts_fill (a := a) rfl h.objs e1 h.ev parts.toList _ r zv.cells h3 f1 hV.2
      have hlr : r.1.length = n := by
        have : ∀ (ps : List (Nat × Operand)) (l : List t.den) (r : List t.den × List Id), (setParts t s ps l).eval = some r → r.1.length = l.length := by
          intro ps
          induction ps with
          | nil => intro l r hh; obtain rfl := eval_ok.1 hh; rfl
          | cons p ps ih =>
            intro l r hh
            obtain ⟨i, x⟩ := p
            simp only [setParts] at hh
            obtain ⟨_, h2⟩ := eval_guard.1 hh
            obtain ⟨y, h3, h4⟩ := eval_bind.1 h2
            obtain ⟨r', h5, h6⟩ := eval_bind.1 h4
            obtain rfl := eval_ok.1 h6
            have := ih _ _ h5
            simpa using this
        rw [this _ _ _ h3]
        simp
      refine .inl ⟨.agg cells', w, exec_value (f := Instr.build T (parts.map fun (i, x) => (i, a.eval x))) (by simp only [execOp, ho]) ?_, g1, β, i1.put o.dst ⟨cells'.toList, ?_, by simp [OfCells, AVal.agg, Ty.agg]⟩⟩
      · have q1' : Instr.fill (fun i => some (i * t.size, t.size)) zv.cells (parts.map fun (i, x) => (i, a.eval x)).toList = some cells' := by rw [map_parts]; exact q1
        cases hie : P.info? e with
        | none =>
          -- an element type that is none of the program's takes no cells
          exfalso
          unfold tyOf at ht
          simp only [depth] at ht
          have : P.underlying e = none := by simp [Program.underlying, hie]
          rw [this] at ht
          cases ht
        | some ie =>
          have hse := run_sizeOf hie w
          rw [← cellsOf_eq hie, hsz] at hse
          simp only [Instr.build, Sem.run_bind, zeroValue, typeInfo, run_program, hi, Result.andThen_ok, Sem.run_pure, hzv, run_underlying hT, hse, q1']
      · simp only [V, Rep]
        exact ⟨hlr, q2⟩
    · simp only [eval_fail] at he
  · simp only [eval_fail] at he

/-! ### Append -/

theorem run_append_room' {T X ty e : TypeId} {i : TypeInfo} (hT : P.underlying T = some (.slice e)) (hX : P.underlying X = some .string ∨ ∃ e', P.underlying X = some (.slice e')) (hi : P.info? e = some i)
    {b sLen sCap : Nat} {cur : Array Value} (hg : w.heap[b]? = some (.cells cur e (0, 0))) {x : Value} {n : Nat} {news : List Value} (h1 : ∀ u ∈ news, u.oneCell' = true)
    (hlen : (Builtin.lenOf x).run P w = .ok n w) (hf : (Builtin.firstCells i.size n x).run P w = .ok news.toArray w) (hroom : sLen + n ≤ sCap) (hfit : sLen * i.size + news.length ≤ cur.size) :
    (Builtin.append_ #[T, X] ty #[.slice (some ⟨b, 0, none⟩) sLen sCap, x]).run P w = .ok (.slice (some ⟨b, 0, none⟩) (sLen + n) sCap) (w.setRow b (splice cur.toList (sLen * i.size) news).toArray) := by
  have hst := run_storeCells_at P b (sLen * i.size) e news 0 cur w hg (by simpa using hfit) h1
  simp only [Nat.add_zero] at hst
  rcases hX with hX | ⟨e', hX⟩ <;> simp [Builtin.append_, run_underlying hT, run_underlying hX, sizeOf, typeInfo, hi, hlen, hroom, hf, Addr.add_lit, hst, splice]

theorem run_append_nil' {T X ty e : TypeId} {i : TypeInfo} (hT : P.underlying T = some (.slice e)) (hX : P.underlying X = some .string ∨ ∃ e', P.underlying X = some (.slice e')) (hi : P.info? e = some i)
    {x : Value} (hlen : (Builtin.lenOf x).run P w = .ok 0 w) (hf : (Builtin.firstCells i.size 0 x).run P w = .ok #[] w) :
    (Builtin.append_ #[T, X] ty #[.slice none 0 0, x]).run P w = .ok (.slice none 0 0) w := by
  rcases hX with hX | ⟨e', hX⟩ <;> simp [Builtin.append_, run_underlying hT, run_underlying hX, sizeOf, typeInfo, hi, hlen, hf]

theorem run_append_grow' {T X ty e : TypeId} {i : TypeInfo} {zv : Value} (hT : P.underlying T = some (.slice e)) (hX : P.underlying X = some .string ∨ ∃ e', P.underlying X = some (.slice e')) (hi : P.info? e = some i) (hzv : i.zero = some zv)
    {ad : Option Addr} {sLen sCap : Nat} {olds : List Value} (ho : (Builtin.firstCells i.size sLen (.slice ad sLen sCap)).run P w.drew = .ok olds.toArray w.drew) {x : Value} {n : Nat} {news : List Value}
    (hlen : (Builtin.lenOf x).run P w = .ok n w) (hf : (Builtin.firstCells i.size n x).run P w.drew = .ok news.toArray w.drew) (hroom : sCap < sLen + n)
    (h63 : ((sLen + n : Nat) : Int) ≤ 9223372036854775807) (hfit : (sLen + n) * i.bytes ≤ 140737488355328) :
    (Builtin.append_ #[T, X] ty #[.slice ad sLen sCap, x]).run P w = .ok (.slice (some ⟨w.heap.size, 0, none⟩) (sLen + n) (grownCap w (sLen + n) sCap e))
      (w.drew.alloc (.cells (olds.toArray ++ news.toArray ++ Builtin.zeroCells zv.cells (grownCap w (sLen + n) sCap e - (sLen + n))) e)) := by
  have hn : ¬ (sLen + n ≤ sCap) := by omega
  have h63' : ¬ (9223372036854775807 < ((sLen : Int) + (n : Int))) := by omega
  have hfit' := growslice_fits (bytes := i.bytes) hroom hfit
  have h48' : ¬ (281474976710656 < Builtin.nextslicecap (sLen + n) sCap * i.bytes) := by omega
  rcases hX with hX | ⟨e', hX⟩
  all_goals
    simp [Builtin.append_, run_underlying hT, run_underlying hX, sizeOf, typeInfo, zeroValue, hi, hzv, hlen, hn, h63', h48', Question.forced, hf, ho, newRow, grownCap]
    congr 2
    apply Array.ext'
    simp [List.append_assoc]

end
end Go.Ab

/-
  Soundness of the operations, tenth part: append.
-/
namespace Go.Ab

section
variable {P : Program} {C : Ctx} {g : Nat → Lab} {β : Id → Option Pl} {s : AS} {a : Act} {w : World} {o : Oper}

/-- A slice whose row is only looked at now. -/
theorem peek_row (h : Inv C g β s a w) {v : AVal} {y : Value} (hv : VS (s.env w g β) v y) {t : Ty} {m : List t.den} (he : (s.peek (.slice t) v).eval = some m) :
    ∃ ad cap vs, y = .slice ad m.length cap ∧ (0 < m.length → ad.isSome = true) ∧ (∀ j u, vs[j]? = some u → ∃ bb off, ad = some ⟨bb, off, none⟩ ∧ w.cell? ⟨bb, off + j, none⟩ = some u) ∧ Chunks (Rep (s.env w g β) t) vs m := by
  have hp : (s.toTy (.slice t) v).eval = some m := he
  cases v <;> first | (simp only [AS.toTy, eval_fail] at hp; done) | skip
  case nils =>
    simp only [AS.toTy, eval_ok] at hp
    subst hp
    exact ⟨none, 0, [], nils_of hv, by simp, fun j u hj => by simp at hj, rfl⟩
  case d t' x =>
    simp only [AS.toTy] at hp
    obtain ⟨rfl, hp⟩ := castTy_some (eval_opt.1 hp)
    simp only at hp
    subst hp
    obtain ⟨ad, cap, vs, hy, _, hs, hr, hc⟩ := slice_of hv
    exact ⟨ad, cap, vs, hy, hs, fun j u hj => let ⟨bb, off, e, hh⟩ := hr j u hj; ⟨bb, off, e, hh.1⟩, hc⟩
  case sref id ver p c i len =>
    simp only [AS.toTy] at hp
    obtain ⟨⟨n, t', l⟩, h1, h2⟩ := eval_bind.1 hp
    obtain ⟨h3, h4⟩ := eval_chk.1 h2
    obtain ⟨hty, h5⟩ := castTy_some (eval_opt.1 h4)
    simp only [Ty.slice.injEq] at hty
    have hty' : t' = t := hty
    subst hty'
    simp only at h5
    subst h5
    simp only [decide_eq_true_eq] at h3
    obtain ⟨hc, hlen⟩ := h3
    obtain ⟨fr, c0, hent, hrow⟩ := row_sound rfl h.objs h1
    obtain ⟨ad, cap, hy, hle, hsome, hb, hcur⟩ := sref_of hv
    have hcur := hcur ⟨fr, c0, hent⟩
    have hxl : (cut l i len).length = len := cut_length hlen
    rcases hrow with ⟨hp, hl, _⟩ | ⟨pl, cur, e, hp, hh, hsz, hch, hbound⟩
    · rw [hp] at hcur
      simp only at hcur
      obtain ⟨rfl, rfl, rfl⟩ := hcur
      have : cut l i 0 = [] := by simp [cut]
      refine ⟨none, 0, [], by rw [hxl]; exact hy, by rw [hxl]; omega, fun _ _ hh => by simp at hh, ?_⟩
      rw [this]; rfl
    · rw [hp] at hcur
      simp only at hcur
      have hmul : (i + len) * t'.size ≤ l.length * t'.size := Nat.mul_le_mul_right _ hlen
      rw [Nat.add_mul] at hmul
      refine ⟨ad, cap, _, by rw [hxl]; exact hy, by rw [hxl]; exact hsome, ?_, chunks_cut hch i len⟩
      rw [part_mid _ _ _ _ _ hmul]
      intro j v hj
      rw [List.getElem?_take] at hj
      split at hj
      · rename_i hjl
        rw [List.getElem?_drop, hc] at hj
        have hlp : 0 < len := by
          rcases Nat.eq_zero_or_pos len with h0 | h0
          · subst h0; simp at hjl
          · exact h0
        refine ⟨pl.b, c, hcur.1 (.inl hlp), ?_⟩
        have hh' : w.heap[pl.b]? = some (.cells cur e (0, 0)) := hh
        rw [cell_of_row w pl.b (c + j) cur e (0, 0) hh']
        simpa using hj
      · cases hj

/-- What is put behind. -/
theorem moreA_sound (h : Inv C g β s a w) {t : Ty} {X : TypeId} {x : AVal} {y : Value} (hx : VS (s.env w g β) x y) {m : List t.den} (he : (moreA P s t X x).eval = some m) :
    (P.underlying X = some .string ∨ ∃ e', P.underlying X = some (.slice e')) ∧ ∃ news : List Value, Chunks (Rep (s.env w g β) t) news m ∧ (Builtin.lenOf y).run P w = .ok m.length w ∧
      ∀ w', w'.heap = w.heap → (Builtin.firstCells t.size m.length y).run P w' = .ok news.toArray w' := by
  have sl : ∀ (x : AVal), VS (s.env w g β) x y → (match P.underlying X with
      | some (.slice _) => s.peek (.slice t) x
      | _ => .fail).eval = some m → (P.underlying X = some .string ∨ ∃ e', P.underlying X = some (.slice e')) ∧ ∃ news : List Value, Chunks (Rep (s.env w g β) t) news m ∧ (Builtin.lenOf y).run P w = .ok m.length w ∧
      ∀ w', w'.heap = w.heap → (Builtin.firstCells t.size m.length y).run P w' = .ok news.toArray w' := by
    intro x hx he
    split at he
    · rename_i e' hX
      refine ⟨.inr ⟨e', hX⟩, ?_⟩
      obtain ⟨ad, cap, vs, rfl, hsome, hrow, hch⟩ := peek_row h hx he
      have hlen := Chunks.length (fun _ _ hx => Rep.size hx) hch
      refine ⟨vs, hch, rfl, fun w' hw' => ?_⟩
      cases ad with
      | none =>
        have hm0 : m.length = 0 := by
          rcases Nat.eq_zero_or_pos m.length with h0 | h0
          · exact h0
          · have := hsome h0; simp at this
        have : vs = [] := List.eq_nil_of_length_eq_zero (by rw [hlen, hm0, Nat.zero_mul])
        subst this
        rfl
      | some ad =>
        refine run_firstCells_some (P := P) w' t.size _ ad _ _ vs hlen (fun j v hj => ?_)
        obtain ⟨bb, off, e1, hh⟩ := hrow j v hj
        simp only [Option.some.injEq] at e1
        subst e1
        rw [Addr.add_lit]
        simpa [World.cell?, hw'] using hh
    · simp only [eval_fail] at he
  unfold moreA at he
  split at he
  · rename_i st
    split at he
    · rename_i hX
      refine ⟨.inl hX, ?_⟩
      obtain ⟨e, hm⟩ := castTy_some (eval_opt.1 he)
      have e' : Ty.int .u8 = t := by simpa using e
      subst e'
      simp only at hm
      subst hm
      have hy := str_of hx
      subst hy
      have hlen : (bytesOfStr st).length = st.size := by simp only [bytesOfStr, List.length_map, Array.length_toList]; rfl
      refine ⟨(bytesOfStr st).map (Value.int .u8), ints_chunks _, by rw [hlen]; rfl, fun w' _ => ?_⟩
      rw [hlen]
      simp only [Builtin.firstCells, Sem.run_pure]
      congr 1
      apply Array.ext'
      rw [ByteArray.extract_zero_size]
      simp [bytesOfStr]
    · simp only [eval_fail] at he
  · exact sl _ hx he

theorem zeroCells_size (z : Array Value) (n : Nat) : (Builtin.zeroCells z n).size = n * z.size := by simp [Builtin.zeroCells]

theorem append_runs (h : Inv C g β s a w) {c : Call} {x y : Operand} {T X : TypeId} (ho : o.op = .call c) (hc : c.callee = .builtin .append) (ha : c.args.toList = [x, y]) (ht : c.argTypes.toList = [T, X]) {s' : AS}
    (he : (appendA P s o.dst T X (s.ev x) (s.ev y)).eval = some s') : Runs P o a w (Sts C s') := by
  obtain ⟨cal, args, tys⟩ := c
  simp only at hc ha ht
  have ha' : args = #[x, y] := by apply Array.ext'; simpa using ha
  have ht' : tys = #[T, X] := by apply Array.ext'; simpa using ht
  subst hc ha' ht'
  have hx := h.ev x
  have hy := h.ev y
  have fin : ∀ z w', (Builtin.append_ #[T, X] 0 #[a.eval x, a.eval y]).run P w = .ok z w' → (∃ g' β', Inv C g' β' s' (a.put o.dst z) w') → Runs P o a w (Sts C s') := by
    intro z w' h1 h2
    refine .inl ⟨z, w', builtin_value ho (f := Builtin.append_ #[T, X] 0 #[a.eval x, a.eval y]) (fun ty cs xs hxs => ?_) h1, h2⟩
    subst hxs
    have e1 : Builtin.append_ #[T, X] 0 #[a.eval x, a.eval y] = Builtin.append_ #[T, X] ty #[a.eval x, a.eval y] := rfl
    rw [e1]
    simp [builtin]
  unfold appendA at he
  split at he
  · rename_i e t b q hel hd
    obtain ⟨hT, hz, i, zv, hi, his, hib, hzv, hzr⟩ := elemOfT_sound hel
    obtain ⟨m, hm, he⟩ := eval_bind.1 he
    obtain ⟨hX, news, hch, hlen, hfc⟩ := moreA_sound h hy hm
    have hnl := hch.length (fun _ _ hx => Rep.size hx)
    have h1news : ∀ u ∈ news, u.oneCell' = true := Chunks.all (fun _ _ hx => hx.one) hch
    rw [← his] at hfc
    have hzc : zv.cells.size = t.size := by have := (hzr (s.env w g β)).size; simpa using this
    have hzcc : ∀ n, (Builtin.zeroCells zv.cells n).size = n * t.size := fun n => by rw [zeroCells_size, hzc]
    -- a new block, for what was there and what comes
    have grow : ∀ (ad : Option Addr) (sLen sCap : Nat) (olds : List Value) (l0 : List t.den), a.eval x = .slice ad sLen sCap → olds.length = sLen * t.size → l0.length = sLen → Chunks (Rep (s.env w g β) t) olds l0 →
        (Builtin.firstCells i.size sLen (.slice ad sLen sCap)).run P w.drew = .ok olds.toArray w.drew → sCap < sLen + m.length → roomA (sLen + m.length) b = true →
        ∃ (cur : Array Value) (cap : Nat), (Builtin.append_ #[T, X] 0 #[a.eval x, a.eval y]).run P w = .ok (.slice (some ⟨w.heap.size, 0, none⟩) (sLen + m.length) cap) (w.drew.alloc (.cells cur e)) ∧
          cur.size = cap * t.size ∧ sLen + m.length ≤ cap ∧ cap ≤ maxLen ∧ cur.toList.take ((sLen + m.length) * t.size) = olds ++ news := by
      intro ad sLen sCap olds l0 hxv hlo hl0 hco hfo hroom hra
      simp only [roomA, decide_eq_true_eq] at hra
      have hr := run_append_grow' (P := P) (w := w) (ty := 0) hT hX hi hzv hfo hlen (hfc w.drew rfl) hroom (by omega) (by rw [hib]; exact hra.1)
      rw [hxv]
      refine ⟨_, _, hr, ?_, grownCap_ge _ _ _ _, grownCap_le_maxLen _ _ _ _ (by unfold maxLen; omega), ?_⟩
      · have hge := grownCap_ge w (sLen + m.length) sCap e
        simp only [Array.size_append, List.size_toArray, hzcc, hlo, hnl, ← Nat.add_mul]
        congr 1
        omega
      · have hl2 : (olds ++ news).length = (sLen + m.length) * t.size := by rw [List.length_append, hlo, hnl, Nat.add_mul]
        simp only [Array.toList_append]
        rw [← hl2]
        exact List.take_left
    split at he
    · rename_i hxn
      rw [hxn] at hx
      have hxv := nils_of hx
      obtain ⟨hq, he⟩ := eval_guard.1 he
      obtain ⟨hra, he⟩ := eval_chk.1 he
      obtain rfl := eval_ok.1 he
      by_cases hm0 : m.length = 0
      · have hmn : m = [] := List.eq_nil_of_length_eq_zero hm0
        subst hmn
        have hnn : news = [] := List.eq_nil_of_length_eq_zero (by rw [hnl]; simp)
        subst hnn
        obtain ⟨β', i1, e1, v1⟩ := h.nilVec hq (e := e) hz
        refine fin (.slice none 0 0) w ?_ ⟨g, β', ?_⟩
        · rw [hxv]
          exact run_append_nil' (P := P) hT hX hi hlen (hfc w rfl)
        · exact i1.put o.dst v1
      · obtain ⟨cur, cap, hr, q1, q2, q3, q4⟩ := grow none 0 0 [] [] hxv (by simp) rfl rfl rfl (by omega) (by simpa using hra)
        simp only [Nat.zero_add, List.nil_append] at hr q2 q4
        obtain ⟨g2, β2, i2, v2⟩ := (h.drew).newVec hq (e := e) (l := m) (cur := cur) (cap := cap) hz (by rw [q4]; exact hch.mono fun _ _ hx => hx.mono (EnvLe.same (s := s) (β := β) (Trans.drew w g)).mem) q1 q2 q3
        refine fin _ _ hr ⟨g2, β2, ?_⟩
        exact i2.put o.dst v2
    · rename_i id ver len hxs
      rw [hxs] at hx
      obtain ⟨ad, cap, hxv, hlc, hsome, hbnd, hcur⟩ := sref_of hx
      split at he
      · rename_i v fr e' t' l hob
        obtain ⟨h1, he1⟩ := eval_guard.1 he
        clear he
        simp only [Bool.and_eq_true, beq_iff_eq] at h1
        obtain ⟨hve, hee⟩ := h1
        subst hve hee
        obtain ⟨l', hl', he2⟩ := eval_bind.1 he1
        obtain ⟨et, hl'⟩ := castTy_some (eval_opt.1 hl')
        have et' : t' = t := by simpa using et
        subst et'
        simp only at hl'
        subst hl'
        obtain ⟨hll0, he2b⟩ := eval_chk.1 he2
        have hll0 : len ≤ l.length := by simpa using hll0
        obtain ⟨hfl, he3⟩ := eval_chk.1 he2b
        obtain ⟨hra, he4⟩ := eval_chk.1 he3
        obtain rfl := eval_ok.1 he4
        clear he1 he2 he2b he3 he4
        have hent := obj_some hob
        have hcur := hcur ⟨fr, _, hent⟩
        obtain ⟨_, hO⟩ := h.objs id v fr _ hent
        have hO' : (match β id with
          | none => l = []
          | some pl => ∃ cur k, w.heap[pl.b]? = some (.cells cur e (0, 0)) ∧ cur.size = pl.cap * t'.size ∧ l.length ≤ pl.cap ∧ pl.cap ≤ maxLen ∧ g pl.b = .own (.id id) k ∧
              k ≤ l.length * t'.size ∧ (fr = false → k = 0) ∧ Chunks (Rep (s.env w g β) t') (cur.toList.take (l.length * t'.size)) l) := hO
        have hcur' : (match β id with
          | some pl => (0 < len ∨ 0 = 0 → ad = some ⟨pl.b, 0, none⟩) ∧ (([] : List Stp) = [] → 0 = 0 → cap = pl.cap)
          | none => ad = none ∧ len = 0 ∧ cap = 0) := hcur
        have hfr : fr = false ∨ len = l.length := by
          simp only [Bool.or_eq_true, Bool.not_eq_true', decide_eq_true_eq] at hfl
          exact hfl
        have hne : s.ent id ≠ none := by rw [hent]; simp
        -- the object, in a block of its own that is new
        have fresh : ∀ (cur : Array Value) (cp : Nat) (g0 : Nat → Lab), Trans w (w.drew.alloc (.cells cur e)) g (upd1 g0 w.heap.size (.own (.id (id)) 0)) →
            (∀ i ver fr c pl, i ≠ id → s.ent i = some (.obj ver fr c) → β i = some pl → g0 pl.b = g pl.b) → cur.size = cp * t'.size → len + m.length ≤ cp → cp ≤ maxLen →
            Chunks (Rep (s.env w g β) t') (cur.toList.take ((len + m.length) * t'.size)) (l.take len ++ m) → len ≤ l.length →
            ∃ g' β', Inv C g' β' ((s.setEnt id (.obj (v + 1) fr (.vec e t' (l.take len ++ m)))).put o.dst (.sref id (v + 1) [] 0 0 (len + m.length))) (a.put o.dst (.slice (some ⟨w.heap.size, 0, none⟩) (len + m.length) cp)) (w.drew.alloc (.cells cur e)) := by
          intro cur cp g0 ht hg0 q1 q2 q3 q4 q5
          have hll : (l.take len ++ m).length = len + m.length := by simp; omega
          have hle : EnvLe (s.env w g β) ((s.setEnt id (.obj (v + 1) fr (.vec e t' (l.take len ++ m)))).env (w.drew.alloc (.cells cur e)) (upd1 g0 w.heap.size (.own (.id id) 0)) (updI β id (some ⟨w.heap.size, cp⟩))) :=
            EnvLe.setEnt hent (by omega) ht (fun i hi => updI_other _ _ _ hi) (fun hh => by omega)
          have i1 := h.step (slots_setEnt _ _ _) ht hle (Objs.setEnt h.objs hne hle (fun i hi => updI_other _ _ _ hi) (fun i ver fr' c' pl hi hs2 hp2 => by
              have hlt : pl.b < w.heap.size := ((h.objs i ver fr' c' hs2).label (pl := pl) hp2).1
              exact ⟨alloc_lt w.drew _ hlt, by rw [upd1_other _ _ _ (by omega)]; exact hg0 i ver fr' c' pl hi hs2 hp2⟩) (by
            refine ⟨hz, ?_⟩
            show (match updI β id (some ⟨w.heap.size, cp⟩) id with
              | none => (l.take len ++ m) = []
              | some pl => _)
            rw [updI_self]
            refine ⟨cur, 0, alloc_at w.drew _, q1, by rw [hll]; exact q2, q3, upd1_self _ _ _, Nat.zero_le _, fun _ => rfl, ?_⟩
            rw [hll]
            exact q4.mono fun _ _ hx => hx.mono hle.mem))
          refine ⟨_, _, i1.put o.dst ⟨_, ?_, rfl⟩⟩
          simp only [V]
          have hself := ent_setEnt_self s id (.obj (v + 1) fr (.vec e t' (l.take len ++ m))) hne
          refine ⟨_, _, rfl, q2, fun _ => rfl, ⟨by show (s.setEnt id _).ent id ≠ none; rw [hself]; simp, fun v' fr' c' hh => ?_⟩, fun _ => ?_⟩
          · have hh' : (s.setEnt id (.obj (v + 1) fr (.vec e t' (l.take len ++ m)))).ent id = some (.obj v' fr' c') := hh
            rw [hself] at hh'
            simp only [Option.some.injEq, Ent.obj.injEq] at hh'
            omega
          · show (match updI β id (some ⟨w.heap.size, cp⟩) id with
              | some pl => _
              | none => _)
            rw [updI_self]
            exact ⟨fun _ => rfl, fun _ _ => rfl⟩
        cases hp : β id with
        | none =>
          rw [hp] at hO' hcur'
          simp only at hO' hcur'
          obtain ⟨rfl, rfl, rfl⟩ := hcur'
          subst hO'
          by_cases hm0 : m.length = 0
          · have hmn : m = [] := List.eq_nil_of_length_eq_zero hm0
            subst hmn
            have hnn : news = [] := List.eq_nil_of_length_eq_zero (by rw [hnl]; simp)
            subst hnn
            have ht := Trans.refl w g
            have hle : EnvLe (s.env w g β) ((s.setEnt id (.obj (v + 1) fr (.vec e t' []))).env w g β) := EnvLe.setEnt hent (by omega) ht (fun _ _ => rfl) (fun _ => rfl)
            have i1 := h.step (slots_setEnt _ _ _) ht hle (Objs.setEnt h.objs hne hle (fun _ _ => rfl) (fun _ _ _ _ _ _ _ _ => ⟨rfl, rfl⟩) (by
              refine ⟨hz, ?_⟩
              show (match β id with
                | none => ([] : List t'.den) = []
                | some pl => _)
              rw [hp]))
            refine fin (.slice none 0 0) w ?_ ⟨g, β, i1.put o.dst ⟨_, ?_, rfl⟩⟩
            · rw [hxv]
              exact run_append_nil' (P := P) hT hX hi hlen (hfc w rfl)
            · simp only [V]
              have hself := ent_setEnt_self s id (.obj (v + 1) fr (.vec e t' [])) hne
              refine ⟨_, _, rfl, Nat.le_refl _, fun hh => by simp at hh, ⟨by show (s.setEnt id _).ent id ≠ none; rw [hself]; simp, fun v' fr' c' hh => ?_⟩, fun _ => ?_⟩
              · have hh' : (s.setEnt id (.obj (v + 1) fr (.vec e t' []))).ent id = some (.obj v' fr' c') := hh
                rw [hself] at hh'
                simp only [Option.some.injEq, Ent.obj.injEq] at hh'
                omega
              · show (match β id with
                  | some pl => _
                  | none => _)
                rw [hp]
                exact ⟨rfl, by simp, rfl⟩
          · obtain ⟨cur, cp, hr, q1, q2, q3, q4⟩ := grow none 0 0 [] [] hxv (by simp) rfl rfl rfl (by omega) hra
            refine fin _ _ hr (fresh cur cp g (Trans.trans (Trans.drew w g) (Trans.alloc w.drew g _ _)) (fun _ _ _ _ _ _ _ _ => rfl) q1 q2 q3 ?_ (by simp))
            rw [q4]
            simpa using hch
        | some pl =>
          rw [hp] at hO' hcur'
          simp only at hO' hcur'
          obtain ⟨had, hcap⟩ := hcur'
          have had := had (.inr trivial)
          have hcap := hcap trivial trivial
          subst had hcap
          obtain ⟨cur, k, p1, p2, p3, p4, p5, p6, p7, p8⟩ := hO'
          have hk : k ≤ len * t'.size := by
            rcases hfr with hf | hf
            · rw [p7 hf]; exact Nat.zero_le _
            · rw [hf]; exact p6
          have hmul : len * t'.size ≤ l.length * t'.size := Nat.mul_le_mul_right _ hll0
          have hmulc : l.length * t'.size ≤ cur.size := by rw [p2]; exact Nat.mul_le_mul_right _ p3
          have htk := Chunks.take (fun _ _ hx => Rep.size hx) len p8
          rw [List.take_take, Nat.min_eq_left hmul] at htk
          have hlo : (cur.toList.take (len * t'.size)).length = len * t'.size := by simp; omega
          by_cases hroom : len + m.length ≤ pl.cap
          · have hrm : (len + m.length) * t'.size ≤ cur.size := by rw [p2]; exact Nat.mul_le_mul_right _ hroom
            have hfit : len * i.size + news.length ≤ cur.size := by rw [his, hnl, ← Nat.add_mul]; exact hrm
            have hr := run_append_room' (P := P) (w := w) (ty := 0) hT hX hi p1 h1news hlen (hfc w rfl) hroom hfit
            rw [his] at hr hfit
            have ht : Trans w (w.setRow pl.b (splice cur.toList (len * t'.size) news).toArray) g g := by
              refine ⟨by simp, by simp, by simp, by simp, fun b' hb => ?_⟩
              by_cases hbe : b' = pl.b
              · subst hbe
                rw [p5]
                refine ⟨.inr ⟨id, k, rfl, Nat.le_refl _⟩, fun off u hoff hu => ?_⟩
                rw [cell_of_row w pl.b off cur e (0, 0) p1] at hu
                rw [cell_setRow_same w pl.b off cur _ e (0, 0) p1]
                simp only [splice, List.append_assoc, List.getElem?_toArray]
                rw [List.getElem?_append_left (by rw [hlo]; omega), List.getElem?_take, if_pos (by omega)]
                simpa using hu
              · rw [setRow_other w pl.b b' _ hbe]
                cases hgb : g b' with
                | free => exact ⟨rfl, rfl⟩
                | own o' k => cases o' with
                  | foreign => exact ⟨rfl, rfl⟩
                  | id i' => exact ⟨.inr ⟨i', k, rfl, Nat.le_refl _⟩, fun off v _ hv => by rw [cell_setRow_other w pl.b _ _ hbe]; exact hv⟩
            have hle : EnvLe (s.env w g β) ((s.setEnt id (.obj (v + 1) fr (.vec e t' (l.take len ++ m)))).env (w.setRow pl.b (splice cur.toList (len * t'.size) news).toArray) g β) :=
              EnvLe.setEnt hent (by omega) ht (fun _ _ => rfl) (fun _ => rfl)
            have hll : (l.take len ++ m).length = len + m.length := by simp; omega
            have hspl : (splice cur.toList (len * t'.size) news).length = cur.toList.length := splice_length (by simpa using hfit)
            have i1 := h.step (slots_setEnt _ _ _) ht hle (Objs.setEnt h.objs hne hle (fun _ _ => rfl) (fun i ver fr c pl2 hi hs2 hp2 => ⟨setRow_other w pl.b pl2.b _ (h.apart p5 hi hs2 hp2), rfl⟩) (by
              refine ⟨hz, ?_⟩
              show (match β id with
                | none => (l.take len ++ m) = []
                | some pl => _)
              rw [hp]
              refine ⟨_, k, setRow_heap w pl.b cur _ e (0, 0) p1, by rw [List.size_toArray, hspl]; simpa using p2, by rw [hll]; exact hroom, p4, p5, ?_, p7, ?_⟩
              · rw [hll, Nat.add_mul]; omega
              · rw [hll, show (splice cur.toList (len * t'.size) news).toArray.toList = splice cur.toList (len * t'.size) news from rfl]
                have e1 : (splice cur.toList (len * t'.size) news).take ((len + m.length) * t'.size) = cur.toList.take (len * t'.size) ++ news := by
                  unfold splice
                  have hl2 : (cur.toList.take (len * t'.size) ++ news).length = (len + m.length) * t'.size := by rw [List.length_append, hlo, hnl, Nat.add_mul]
                  rw [← hl2]
                  exact List.take_left
                rw [e1]
                exact (Chunks.append htk hch).mono fun _ _ hx => hx.mono hle.mem))
            rw [← hxv] at hr
            refine fin _ _ hr ⟨g, β, i1.put o.dst ⟨_, ?_, rfl⟩⟩
            simp only [V]
            have hself := ent_setEnt_self s id (.obj (v + 1) fr (.vec e t' (l.take len ++ m))) hne
            refine ⟨_, _, rfl, hroom, fun _ => rfl, ⟨by show (s.setEnt id _).ent id ≠ none; rw [hself]; simp, fun v' fr' c' hh => ?_⟩, fun _ => ?_⟩
            · have hh' : (s.setEnt id (.obj (v + 1) fr (.vec e t' (l.take len ++ m)))).ent id = some (.obj v' fr' c') := hh
              rw [hself] at hh'
              simp only [Option.some.injEq, Ent.obj.injEq] at hh'
              omega
            · show (match β id with
                | some pl => _
                | none => _)
              rw [hp]
              exact ⟨fun _ => rfl, fun _ _ => rfl⟩
          · have hfo : (Builtin.firstCells i.size len (.slice (some ⟨pl.b, 0, none⟩) len pl.cap)).run P w.drew = .ok (cur.toList.take (len * t'.size)).toArray w.drew := by
              refine run_firstCells_some (P := P) w.drew i.size _ _ _ _ _ (by rw [hlo, his]) (fun j u hj => ?_)
              rw [Addr.add_lit, Nat.zero_add]
              show w.cell? ⟨pl.b, j, none⟩ = some u
              rw [cell_of_row w pl.b j cur e (0, 0) p1]
              rw [List.getElem?_take] at hj
              split at hj
              · simpa using hj
              · cases hj
            obtain ⟨cur2, cp, hr, q1, q2, q3, q4⟩ := grow (some ⟨pl.b, 0, none⟩) len pl.cap (cur.toList.take (len * t'.size)) (l.take len) hxv hlo (by simp; omega) htk hfo (by omega) hra
            have hlt : pl.b < w.heap.size := (Array.getElem?_eq_some_iff.1 p1).1
            have hfree : Trans w w.drew g (upd1 g pl.b .free) := by
              refine ⟨rfl, rfl, rfl, Nat.le_refl _, fun b' hb => ?_⟩
              by_cases hbe : b' = pl.b
              · subst hbe
                rw [p5, upd1_self]
                exact ⟨.inl rfl, fun _ _ _ hh => hh⟩
              · rw [upd1_other _ _ _ hbe]
                exact (Trans.drew w g).blk b' hb
            refine fin _ _ hr (fresh cur2 cp (upd1 g pl.b .free) (Trans.trans hfree (Trans.alloc w.drew _ _ _)) (fun i ver fr c pl2 hi hs2 hp2 => upd1_other _ _ _ (h.apart p5 hi hs2 hp2)) q1 q2 q3 ?_ hll0)
            rw [q4]
            exact Chunks.append htk hch
      · simp only [eval_fail] at he
    · simp only [eval_fail] at he
  · simp only [eval_fail] at he

end
end Go.Ab
/-
  References by other names; what is known of a function; calls.
-/
namespace Go.Ab

/-! ### Renaming -/

abbrev Ren := Id → Nat → Option (Id × Nat)

structure RenLe (ρ : Ren) (E E' : Env) : Prop where
  mem : MemLe E E'
  ref : ∀ id ver r, ρ id ver = some r → E.bnd id ver → E'.bnd r.1 r.2 ∧ (E'.cur r.1 r.2 → E.cur id ver ∧ E'.β r.1 = E.β id)

theorem ren_agg (ρ : Ren) (a : AVal) : (a.ren ρ).agg = a.agg := by
  cases a with
  | ptr id v p n => simp only [AVal.ren]; cases ρ id v <;> rfl
  | sref id v p c i l => simp only [AVal.ren]; cases ρ id v <;> rfl
  | _ => rfl

mutual
theorem V_ren {ρ : Ren} {E E' : Env} (h : RenLe ρ E E') : ∀ {a : AVal} {cs : List Value}, V E a cs → V E' (a.ren ρ) cs
  | .undef, _, hv => by simp only [V] at hv
  | .gone, _, hv => by simpa only [AVal.ren, V] using hv
  | .nils, _, hv => by simpa only [AVal.ren, V] using hv
  | .nilp, _, hv => by simpa only [AVal.ren, V] using hv
  | .nilf, _, hv => by simpa only [AVal.ren, V] using hv
  | .nilm, _, hv => by simpa only [AVal.ren, V] using hv
  | .sb l, _, hv => by
    simp only [AVal.ren, V] at hv ⊢
    obtain ⟨b, cap, arr, e, h1, h2, h3, h4, h5⟩ := hv
    obtain ⟨h6, h7⟩ := h.mem.fz b _ h3 h4
    exact ⟨b, cap, arr, e, h1, h2, h6, h7, h5⟩
  | .d t x, _, hv => by simp only [AVal.ren, V] at hv ⊢; exact hv.mono h.mem
  | .pr a b, _, hv => by
    simp only [AVal.ren, V] at hv ⊢
    obtain ⟨ca, cb, e, ha, hb⟩ := hv
    exact ⟨ca, cb, e, V_ren h ha, V_ren h hb⟩
  | .ptr id ver p n, _, hv => by
    have h1 := hv.one
    simp only [AVal.ren]
    cases hr : ρ id ver with
    | none =>
      simp only [V] at hv ⊢
      obtain ⟨a, e, _⟩ := hv
      exact ⟨_, e, h1 _ (by simp [e])⟩
    | some r =>
      simp only [V] at hv ⊢
      obtain ⟨a, e, hb, hc⟩ := hv
      obtain ⟨b1, b2⟩ := h.ref id ver r hr hb
      refine ⟨a, e, b1, fun c => ?_⟩
      obtain ⟨c1, e1⟩ := b2 c
      rw [e1]; exact hc c1
  | .rptr t x, _, hv => by
    simp only [AVal.ren, V] at hv ⊢
    obtain ⟨b, off, vs, e, hr, hx⟩ := hv
    exact ⟨b, off, vs, e, hr.mono h.mem, hx.mono h.mem⟩
  | .sref id ver p c i len, _, hv => by
    have h1 := hv.one
    simp only [AVal.ren]
    cases hr : ρ id ver with
    | none =>
      simp only [V] at hv ⊢
      obtain ⟨a, cap, e, _⟩ := hv
      exact ⟨_, e, h1 _ (by simp [e])⟩
    | some r =>
      simp only [V] at hv ⊢
      obtain ⟨a, cap, e, hl, hs, hb, hc⟩ := hv
      obtain ⟨b1, b2⟩ := h.ref id ver r hr hb
      refine ⟨a, cap, e, hl, hs, b1, fun c => ?_⟩
      obtain ⟨c1, e1⟩ := b2 c
      rw [e1]; exact hc c1
  | .fn f c, _, hv => by
    simp only [AVal.ren, V] at hv ⊢
    obtain ⟨vs, e, hc⟩ := hv
    exact ⟨vs, e, VC_ren h hc⟩
  | .cons _ _, _, hv => by simp only [V] at hv
  | .nil, _, hv => by simp only [V] at hv
  | .vec .., _, hv => by simp only [V] at hv
  | .bx .., _, hv => by simp only [V] at hv
theorem VC_ren {ρ : Ren} {E E' : Env} (h : RenLe ρ E E') : ∀ {a : AVal} {vs : List Value}, VC E a vs → VC E' (a.ren ρ) vs
  | .nil, _, hv => by simpa only [AVal.ren, VC] using hv
  | .cons a b, _, hv => by
    simp only [AVal.ren, VC] at hv ⊢
    obtain ⟨v, vs', cs, e, ha, ho, hb⟩ := hv
    exact ⟨v, vs', cs, e, V_ren h ha, by rw [ren_agg]; exact ho, VC_ren h hb⟩
  | .undef, _, hv => by simp only [VC] at hv
  | .gone, _, hv => by simp only [VC] at hv
  | .nils, _, hv => by simp only [VC] at hv
  | .nilp, _, hv => by simp only [VC] at hv
  | .nilf, _, hv => by simp only [VC] at hv
  | .nilm, _, hv => by simp only [VC] at hv
  | .sb _, _, hv => by simp only [VC] at hv
  | .d t x, _, hv => by simp only [VC] at hv
  | .pr a b, _, hv => by simp only [VC] at hv
  | .ptr .., _, hv => by simp only [VC] at hv
  | .rptr .., _, hv => by simp only [VC] at hv
  | .sref .., _, hv => by simp only [VC] at hv
  | .fn .., _, hv => by simp only [VC] at hv
  | .vec .., _, hv => by simp only [VC] at hv
  | .bx .., _, hv => by simp only [VC] at hv
end

theorem VS_ren {ρ : Ren} {E E' : Env} (h : RenLe ρ E E') {a : AVal} {v : Value} (hv : VS E a v) : VS E' (a.ren ρ) v := by
  by_cases hc : a.celled = true
  · obtain ⟨cs, h1, h2⟩ := hv.celled hc
    exact VS.of (V_ren h h1) (by rw [ren_agg]; exact h2)
  · cases a <;> first | (exact absurd rfl hc) | skip
    · trivial
    · obtain ⟨vs, e, hvc⟩ := hv
      have := VC_ren h hvc
      simp only [AVal.ren] at this ⊢
      exact ⟨vs, e, this⟩
    · exact hv
    · obtain ⟨cs, h1, _⟩ := hv
      simp only [V] at h1
    · obtain ⟨cs, h1, _⟩ := hv
      simp only [V] at h1

theorem ren_strip (ρ : Ren) (c : AVal) : (c.ren ρ).strip = c.strip.ren ρ := by
  cases c <;> first
    | rfl
    | (rename_i id ver p n; simp only [AVal.strip, AVal.ren]; cases ρ id ver <;> rfl)
    | (rename_i id ver p c i len; simp only [AVal.strip, AVal.ren]; cases ρ id ver <;> rfl)
theorem boxOk_ren (ρ : Ren) {c : AVal} {e : TypeId} (h : c.boxOk e) : (c.ren ρ).boxOk e := by
  cases c <;> first
    | exact h
    | trivial
    | (rename_i id ver p n; simp only [AVal.ren]; cases ρ id ver <;> trivial)
    | (rename_i id ver p c i len; simp only [AVal.ren]; cases ρ id ver <;> trivial)

theorem isVec_ren (ρ : Ren) {a : AVal} (h : a.isVec = false) : (a.ren ρ).isVec = false := by
  cases a <;> first | rfl | (simp [AVal.isVec] at h; done) | (simp only [AVal.ren]; split <;> rfl)

theorem ObjR_ren {ρ : Ren} {E E' : Env} (h : RenLe ρ E E') {id id' : Id} {fr : Bool} {c : AVal} (ho : ObjR E id fr c) (hβ : E'.β id' = E.β id)
    (hb : ∀ pl, E.β id = some pl → E'.w.heap[pl.b]? = E.w.heap[pl.b]? ∧ (∀ k, E.g pl.b = .own (.id id) k → E'.g pl.b = .own (.id id') k) ∧ (E.g pl.b = .free → E'.g pl.b = .free)) : ObjR E' id' fr (c.ren ρ) := by
  by_cases hn : c.isVec = false
  · obtain ⟨pl, cur, e, h1, h2, h3, h5, h4⟩ := ho.box hn
    obtain ⟨b1, b2, b3⟩ := hb pl h1
    have h6 := V_ren h h4
    refine BoxR.obj ⟨pl, cur, e, by rw [hβ, h1], by rw [b1, h2], ?_, boxOk_ren ρ h5, by rw [ren_strip]; exact h6⟩
    cases fr with
    | true => exact b3 h3
    | false => exact b2 0 h3
  · cases c <;> first
      | (exact absurd rfl hn)
      | skip
    rename_i e t l
    obtain ⟨hz, ho⟩ := ho
    refine ⟨hz, ?_⟩
    rw [hβ]
    cases hp : E.β id with
    | none => rw [hp] at ho; exact ho
    | some pl =>
      rw [hp] at ho
      simp only at ho ⊢
      obtain ⟨b1, b2, _⟩ := hb pl hp
      obtain ⟨cur, k, h1, h2, h3, h4, h5, h6, h7, h8⟩ := ho
      exact ⟨cur, k, by rw [b1, h1], h2, h3, h4, b2 k h5, h6, h7, h8.mono fun c x hx => hx.mono h.mem⟩

/-! ### What is known of a function -/

def VSs (E : Env) : List AVal → List Value → Prop
  | [], [] => True
  | a :: as, v :: vs => VS E a v ∧ VSs E as vs
  | _, _ => False

def GRes.st (G : GRes) : AS := { slots := [], olds := G.olds, news := [G.news] }
def lent (olds : List Ent) : AS := { slots := [], olds, news := [] }

def After (E : Env) (G : GRes) (v : Value) (w' : World) : Prop :=
  ∃ g' β', VS (G.st.env w' g' β') G.val v ∧ Objs (G.st.env w' g' β') ∧ Trans E.w w' E.g g' ∧ EnvLe E (G.st.env w' g' β')

/-- What an entry says of its function. -/
def Does (P : Program) (f : FuncId) (en : Entry) : Prop :=
  ∀ w g β args olds vals x, VSs ((lent olds).env w g β) args vals → Objs ((lent olds).env w g β) → en.run args olds = some x →
    ((callFunc f vals.toArray).run P w = .ok (.enter f vals.toArray) w ∧
      Calls P f vals.toArray w fun e w' => ∃ v, e = .returned v ∧ After ((lent olds).env w g β) (en.out args olds x) v w') ∨
    (∃ v w', (callFunc f vals.toArray).run P w = .ok (.value v) w' ∧ After ((lent olds).env w g β) (en.out args olds x) v w')

def Sound (P : Program) (Γ : Gam) : Prop := ∀ f vs en, Γ f vs = some en → Does P f en

/-! ### Arguments -/

theorem VSs.mono {E E' : Env} (h : EnvLe E E') : ∀ {as : List AVal} {vs : List Value}, VSs E as vs → VSs E' as vs
  | [], [], _ => trivial
  | _ :: _, _ :: _, ⟨h1, h2⟩ => ⟨h1.mono h, VSs.mono h h2⟩

theorem VSs.ren {ρ : Ren} {E E' : Env} (h : RenLe ρ E E') : ∀ {as : List AVal} {vs : List Value}, VSs E as vs → VSs E' (as.map (AVal.ren ρ)) vs
  | [], [], _ => trivial
  | _ :: _, _ :: _, ⟨h1, h2⟩ => ⟨VS_ren h h1, VSs.ren h h2⟩

theorem VSs.append {E : Env} : ∀ {as : List AVal} {vs : List Value} {bs : List AVal} {us : List Value}, VSs E as vs → VSs E bs us → VSs E (as ++ bs) (vs ++ us)
  | [], [], _, _, _, h => h
  | _ :: _, _ :: _, _, _, ⟨h1, h2⟩, h => ⟨h1, VSs.append h2 h⟩

theorem VC_VSs {E : Env} : ∀ {c : AVal} {vs : List Value}, VC E c vs → VSs E c.list vs
  | .cons a b, vs, h => by
    simp only [VC] at h
    obtain ⟨v, vs', cs, rfl, ha, ho, hb⟩ := h
    exact ⟨VS.of ha ho, VC_VSs hb⟩
  | .nil, vs, h => by
    simp only [VC] at h
    subst h
    trivial
  | .undef, _, hv => by simp only [VC] at hv
  | .gone, _, hv => by simp only [VC] at hv
  | .nils, _, hv => by simp only [VC] at hv
  | .nilp, _, hv => by simp only [VC] at hv
  | .nilf, _, hv => by simp only [VC] at hv
  | .nilm, _, hv => by simp only [VC] at hv
  | .sb _, _, hv => by simp only [VC] at hv
  | .d t x, _, hv => by simp only [VC] at hv
  | .pr a b, _, hv => by simp only [VC] at hv
  | .ptr .., _, hv => by simp only [VC] at hv
  | .rptr .., _, hv => by simp only [VC] at hv
  | .sref .., _, hv => by simp only [VC] at hv
  | .fn .., _, hv => by simp only [VC] at hv
  | .vec .., _, hv => by simp only [VC] at hv
  | .bx .., _, hv => by simp only [VC] at hv

theorem Inv.evs {C : Ctx} {g : Nat → Lab} {β : Id → Option Pl} {s : AS} {a : Act} {w : World} (h : Inv C g β s a w) : ∀ l : List Operand, VSs (s.env w g β) (l.map s.ev) (l.map a.eval)
  | [] => trivial
  | x :: l => ⟨h.ev x, h.evs l⟩

/-- Data out of arguments. -/
theorem conv_rep {E E' : Env} {s : AS} (hs : E.s = s.ent) (ho : Objs E) (he : EnvLe E E') : ∀ (ps : List (Option Ty)) (vs : List AVal) (ys : List Value) (r : List AVal × List Id), VSs E vs ys → (s.conv ps vs).eval = some r → Frz E E' r.2 → VSs E' r.1 ys
  | [], [], ys, r, hv, h, _ => by
    simp only [AS.conv, eval_ok] at h
    subst h
    cases ys with
    | nil => trivial
    | cons _ _ => exact hv.elim
  | some t :: ps, v :: vs, y :: ys, r, ⟨hv, hvs⟩, h, hf => by
    simp only [AS.conv] at h
    obtain ⟨x, h1, h2⟩ := eval_bind.1 h
    obtain ⟨r', h3, h4⟩ := eval_bind.1 h2
    obtain rfl := eval_ok.1 h4
    obtain ⟨cs, hV, hO⟩ := hv.celled (toTy_celled h1)
    refine ⟨VS.of (cs := cs) ?_ ?_, conv_rep hs ho he ps vs ys r' hvs h3 fun id hid => hf id (List.mem_append.2 (.inr hid))⟩
    · simp only [V]
      exact toTy_rep hs ho he v t x cs hV h1 fun id hid => hf id (List.mem_append.2 (.inl hid))
    · show OfCells t.agg cs y
      rw [← toTy_agg h1]; exact hO
  | none :: ps, v :: vs, y :: ys, r, ⟨hv, hvs⟩, h, hf => by
    simp only [AS.conv] at h
    obtain ⟨r', h3, h4⟩ := eval_bind.1 h
    obtain rfl := eval_ok.1 h4
    exact ⟨hv.mono he, conv_rep hs ho he ps vs ys r' hvs h3 hf⟩
  | [], _ :: _, _, _, _, h, _ => by simp only [AS.conv, eval_fail] at h
  | some _ :: _, [], _, _, _, h, _ => by simp only [AS.conv, eval_fail] at h
  | none :: _, [], _, _, _, h, _ => by simp only [AS.conv, eval_fail] at h

end Go.Ab

/-
  Calls: what a state is behind one.
-/
namespace Go.Ab

theorem idxOf_some {id : Id} : ∀ {ids : List Id} {k : Nat}, idxOf id ids = some k → ids[k]? = some id
  | [], _, h => by simp [idxOf] at h
  | x :: xs, k, h => by
    simp only [idxOf] at h
    split at h
    · rename_i e
      simp only [Option.some.injEq] at h
      subst h e
      rfl
    · simp only [Option.map_eq_some_iff] at h
      obtain ⟨j, hj, rfl⟩ := h
      simpa using idxOf_some hj

theorem idxOf_nodup {id : Id} : ∀ {ids : List Id} {k : Nat}, ids.Nodup → ids[k]? = some id → idxOf id ids = some k
  | [], _, _, h => by simp at h
  | x :: xs, 0, hn, h => by
    simp only [List.getElem?_cons_zero, Option.some.injEq] at h
    simp [idxOf, h]
  | x :: xs, k + 1, hn, h => by
    simp only [List.getElem?_cons_succ] at h
    obtain ⟨h1, h2⟩ := List.nodup_cons.1 hn
    have hne : x ≠ id := fun e => h1 (e ▸ List.mem_of_getElem? h)
    simp [idxOf, hne, idxOf_nodup h2 h]

theorem idxOf_none {id : Id} : ∀ {ids : List Id}, idxOf id ids = none → id ∉ ids
  | [], _ => by simp
  | x :: xs, h => by
    simp only [idxOf] at h
    split at h
    · cases h
    · rename_i hne
      simp only [Option.map_eq_none_iff] at h
      simp only [List.mem_cons, not_or]
      exact ⟨fun e => hne e.symm, idxOf_none h⟩

theorem slots_setEnts (s0 : AS) (all : List Id) (t : Nat) : ∀ (ids : List Id) (es : List Ent) (s : AS), (AS.setEnts s0 all t s ids es).slots = s.slots
  | [], _, _ => by simp [AS.setEnts]
  | _ :: _, [], _ => by simp [AS.setEnts]
  | id :: ids, e :: es, s => by rw [AS.setEnts, slots_setEnts s0 all t ids es, slots_setEnt]

theorem slots_made (s : AS) (ids : List Id) (t : Nat) (es : List Ent) : (s.made ids t es).slots = s.slots := by cases es <;> rfl

theorem ent_setEnts (s0 : AS) (all : List Id) (t : Nat) : ∀ (ids : List Id) (es : List Ent) (s : AS), ids.Nodup → es.length = ids.length → (∀ id ∈ ids, s.ent id ≠ none) →
    (∀ id, id ∉ ids → (AS.setEnts s0 all t s ids es).ent id = s.ent id) ∧
    ∀ (k : Nat) (id : Id) (e : Ent), ids[k]? = some id → es[k]? = some e → (AS.setEnts s0 all t s ids es).ent id = some (s0.entOut all t (s0.verOf id) e)
  | [], es, s, _, _, _ => ⟨fun _ _ => by simp [AS.setEnts], fun k id e h => by simp at h⟩
  | _ :: _, [], s, _, hl, _ => by simp at hl
  | i :: ids, e :: es, s, hn, hl, hp => by
    obtain ⟨h1, h2⟩ := List.nodup_cons.1 hn
    have hp' : ∀ id ∈ ids, (s.setEnt i (s0.entOut all t (s0.verOf i) e)).ent id ≠ none := fun id hid => by
      rw [ent_setEnt_other s i id _ (fun e => h1 (e ▸ hid))]
      exact hp id (List.mem_cons_of_mem _ hid)
    obtain ⟨r1, r2⟩ := ent_setEnts s0 all t ids es (s.setEnt i (s0.entOut all t (s0.verOf i) e)) h2 (by simpa using hl) hp'
    rw [AS.setEnts]
    refine ⟨fun id hid => ?_, fun k id e' hk he => ?_⟩
    · simp only [List.mem_cons, not_or] at hid
      rw [r1 id hid.2, ent_setEnt_other s i id _ hid.1]
    · cases k with
      | zero =>
        simp only [List.getElem?_cons_zero, Option.some.injEq] at hk he
        subst hk he
        rw [r1 i h1, ent_setEnt_self s i _ (hp i (List.mem_cons_self ..))]
      | succ k =>
        simp only [List.getElem?_cons_succ] at hk he
        exact r2 k id e' hk he

theorem ent_made (s : AS) (ids : List Id) (t : Nat) (es : List Ent) (hv : es = [] ∨ s.virgin t = true) :
    (∀ id, (es = [] ∨ ∀ j, id ≠ .new t j) → (s.made ids t es).ent id = s.ent id) ∧ (es ≠ [] → ∀ j, (s.made ids t es).ent (.new t j) = (es[j]?).map (s.entOut ids t 0)) := by
  cases es with
  | nil => exact ⟨fun _ _ => rfl, fun h => absurd rfl h⟩
  | cons e es =>
    have hv : s.virgin t = true := by rcases hv with h | h; · cases h
                                      · exact h
    refine ⟨fun id h => ?_, fun _ j => ?_⟩
    · rcases h with h | h
      · cases h
      · exact ent_born_other _ h
    · rw [AS.made, ent_born_new (virgin_ent hv).2, List.getElem?_map]

def labIn (ids : List Id) : Lab → Lab
  | .free => .free
  | .own .foreign n => .own .foreign n
  | .own (.id i) n => match idxOf i ids with | some k => .own (.id (.old k)) n | none => .own .foreign n

def placeIn (β : Id → Option Pl) (ids : List Id) : Id → Option Pl
  | .old k => (ids[k]?).bind β
  | .new _ _ => none

def labOut (g : Nat → Lab) (size : Nat) (ids : List Id) (t : Nat) (b : Nat) : Lab → Lab
  | .free => .free
  | .own .foreign n => if b < size then g b else .own .foreign n
  | .own (.id i) n => .own (.id (idOut ids t i)) n

def placeOut (β β' : Id → Option Pl) (ids : List Id) (t : Nat) (some? : Bool) (id : Id) : Option Pl :=
  match idxOf id ids with
  | some k => β' (.old k)
  | none => match id with
    | .new i j => if i = t ∧ some? = true then β' (.new 0 j) else β (.new i j)
    | id => β id

theorem labIn_ok {ids : List Id} {l : Lab} {off : Nat} (h : okAt (fun _ => l) 0 off) : okAt (fun _ => labIn ids l) 0 off := by
  cases l with
  | free => trivial
  | own o k => cases o with
    | foreign => exact h
    | id i => simp only [labIn]; cases idxOf i ids <;> exact h

section
variable {P : Program} {C : Ctx} {g : Nat → Lab} {β : Id → Option Pl} {s : AS} {a : Act} {w : World} {o : Oper}

/-- What the callee is handed. -/
theorem in_le (ids : List Id) :
    RenLe (s.refIn ids) (s.env w g β) ((lent (ids.map (s.entIn ids))).env w (fun b => labIn ids (g b)) (placeIn β ids)) := by
  refine ⟨⟨fun b off v ⟨h1, h2⟩ => ⟨h1, ?_⟩, fun b ob h1 h2 => ⟨by show labIn ids (g b) = .free; have h1 : g b = .free := h1; rw [h1]; rfl, h2⟩⟩, fun id ver r hr _ => ?_⟩
  · exact labIn_ok (l := g b) h2
  · unfold AS.refIn at hr
    split at hr
    · rename_i k v fr c hk ho
      split at hr
      · rename_i hver
        simp only [Option.some.injEq] at hr
        subst hr hver
        have hid := idxOf_some hk
        have hent := obj_some ho
        refine ⟨⟨?_, fun _ _ _ _ => Nat.zero_le _⟩, fun _ => ⟨⟨fr, c, hent⟩, ?_⟩⟩
        · show (ids.map (s.entIn ids))[k]? ≠ none
          simp [hid]
        · show (ids[k]?).bind β = β id
          rw [hid]; rfl
      · cases hr
    · cases hr

theorem in_objs (ids : List Id) (hn : ids.Nodup) (h : Objs (s.env w g β)) : Objs ((lent (ids.map (s.entIn ids))).env w (fun b => labIn ids (g b)) (placeIn β ids)) := by
  intro id ver fr c hid
  have hid : (lent (ids.map (s.entIn ids))).ent id = some (.obj ver fr c) := hid
  cases id with
  | new i j => simp [lent, AS.ent] at hid
  | old k =>
    simp only [lent, AS.ent, List.getElem?_map, Option.map_eq_some_iff] at hid
    obtain ⟨id1, hk, he⟩ := hid
    unfold AS.entIn at he
    split at he
    · rename_i v fr1 c1 hent
      simp only [Ent.obj.injEq] at he
      obtain ⟨rfl, rfl, rfl⟩ := he
      refine ObjR_ren (in_le ids) (h id1 v fr1 c1 hent) (by show (ids[k]?).bind β = β id1; rw [hk]; rfl) fun pl hp => ⟨rfl, fun n hg => ?_, fun hg => ?_⟩
      · have hg : g pl.b = .own (.id id1) n := hg
        show labIn ids (g pl.b) = _
        rw [hg]
        simp [labIn, idxOf_nodup hn hk]
      · have hg : g pl.b = .free := hg
        show labIn ids (g pl.b) = _
        rw [hg]; rfl
    · cases he

/-- What the caller has behind a call. -/
theorem back_sound (h : Inv C g β s a w) {ids : List Id} (hn : ids.Nodup) (hp : ∀ id ∈ ids, ∃ r, s.obj id = some r) {G : GRes} {t : Nat} (hl : G.olds.length = ids.length) (hv : G.news = [] ∨ s.virgin t = true) {v : Value} {w' : World}
    (ha : After ((lent (ids.map (s.entIn ids))).env w (fun b => labIn ids (g b)) (placeIn β ids)) G v w') :
    ∃ g' β', Inv C g' β' (AS.setEnts s ids t (s.made ids t G.news) ids G.olds) a w' ∧ VS ((AS.setEnts s ids t (s.made ids t G.news) ids G.olds).env w' g' β') (G.val.ren (s.refOut ids t)) v := by
  obtain ⟨g1, β1, hval, hobjs, htr, hle⟩ := ha
  have htr : Trans w w' (fun b => labIn ids (g b)) g1 := htr
  obtain ⟨m1, m2⟩ := ent_made s ids t G.news hv
  have hpe : ∀ id ∈ ids, s.ent id ≠ none := fun id hid => by
    obtain ⟨⟨v, fr, c⟩, hr⟩ := hp id hid
    rw [obj_some hr]; simp
  have hnew : ∀ id, s.ent id ≠ none → G.news = [] ∨ ∀ j, id ≠ .new t j := fun id hid => by
    rcases hv with hv | hv
    · exact .inl hv
    · exact .inr fun j e => hid (by rw [e]; exact (virgin_ent hv).1 j)
  obtain ⟨n1, n2⟩ := ent_setEnts s ids t ids G.olds (s.made ids t G.news) hn hl (fun id hid => by rw [m1 id (hnew id (hpe id hid))]; exact hpe id hid)
  have hvt : ∀ j, G.news ≠ [] → Id.new t j ∉ ids := fun j hne hid => by
    rcases hv with hv | hv
    · exact hne hv
    · exact hpe _ hid ((virgin_ent hv).1 j)
  -- the ids behind the call
  generalize hs2 : AS.setEnts s ids t (s.made ids t G.news) ids G.olds = s2 at *
  have hgO : ∀ (k : Nat) (id : Id), ids[k]? = some id → ∃ e, G.olds[k]? = some e ∧ s2.ent id = some (s.entOut ids t (s.verOf id) e) := fun k id hk => by
    have hlt : k < G.olds.length := by rw [hl]; exact (List.getElem?_eq_some_iff.1 hk).1
    exact ⟨_, List.getElem?_eq_getElem hlt, n2 k id _ hk (List.getElem?_eq_getElem hlt)⟩
  have hgN : G.news ≠ [] → ∀ j, s2.ent (.new t j) = (G.news[j]?).map (s.entOut ids t 0) := fun hne j => by
    rw [n1 _ (hvt j hne), m2 hne j]
  have hgS : ∀ id, id ∉ ids → (G.news = [] ∨ ∀ j, id ≠ .new t j) → s2.ent id = s.ent id := fun id h1 h2 => by
    rw [n1 id h1, m1 id h2]
  have hverOf : ∀ id ∈ ids, ∃ fr c, s.ent id = some (.obj (s.verOf id) fr c) := fun id hid => by
    obtain ⟨⟨v, fr, c⟩, hr⟩ := hp id hid
    refine ⟨fr, c, ?_⟩
    rw [obj_some hr]
    simp [AS.verOf, hr]
  -- labels
  have hfor : ∀ b n, b < w.heap.size → g1 b = .own .foreign n → (g b = .own .foreign n ∨ ∃ i, g b = .own (.id i) n ∧ idxOf i ids = none) := fun b n hb hg => by
    have h1 := htr.blk b hb
    cases hgb : g b with
    | free => simp only [hgb, labIn] at h1; rw [h1.1] at hg; cases hg
    | own o k => cases o with
      | foreign => simp only [hgb, labIn] at h1; rw [h1.1] at hg; left; exact hg
      | id i =>
        cases hi : idxOf i ids with
        | none =>
          simp only [hgb, labIn, hi] at h1
          rw [h1.1] at hg
          simp only [Lab.own.injEq, true_and] at hg
          subst hg
          exact .inr ⟨i, rfl, hi⟩
        | some k' =>
          simp only [hgb, labIn, hi] at h1
          rcases h1.1 with h2 | ⟨_, _, h2, _⟩ <;> (rw [h2] at hg; cases hg)
  let g2 : Nat → Lab := fun b => labOut g w.heap.size ids t b (g1 b)
  let β2 : Id → Option Pl := placeOut β β1 ids t (!G.news.isEmpty)
  have hβO : ∀ k id, ids[k]? = some id → β2 id = β1 (.old k) := fun k id hk => by
    show placeOut _ _ _ _ _ id = _
    simp [placeOut, idxOf_nodup hn hk]
  have hβN : G.news ≠ [] → ∀ j, β2 (.new t j) = β1 (.new 0 j) := fun hne j => by
    show placeOut _ _ _ _ _ _ = _
    have : idxOf (.new t j) ids = none := by
      cases hi : idxOf (.new t j) ids with
      | none => rfl
      | some k => exact absurd (List.mem_of_getElem? (idxOf_some hi)) (hvt j hne)
    have hne' : G.news.isEmpty = false := by cases hh : G.news with
      | nil => exact absurd hh hne
      | cons _ _ => rfl
    simp [placeOut, this, hne']
  have hβS : ∀ id, id ∉ ids → (G.news = [] ∨ ∀ j, id ≠ .new t j) → β2 id = β id := fun id h1 h2 => by
    show placeOut _ _ _ _ _ _ = _
    have : idxOf id ids = none := by
      cases hi : idxOf id ids with
      | none => rfl
      | some k => exact absurd (List.mem_of_getElem? (idxOf_some hi)) h1
    cases id with
    | old k => simp [placeOut, this]
    | new i j =>
      have : ¬ (i = t ∧ (!G.news.isEmpty) = true) := by
        rintro ⟨rfl, h3⟩
        rcases h2 with h2 | h2
        · rw [h2] at h3; cases h3
        · exact h2 j rfl
      simp only [placeOut, *, if_false]
  have htr2 : Trans w w' g g2 := by
    refine ⟨htr.os, htr.tape, htr.output, htr.size, fun b hb => ?_⟩
    have h1 := htr.blk b hb
    show match g b with | .free => labOut g w.heap.size ids t b (g1 b) = .free ∧ _ | .own .foreign k => labOut g w.heap.size ids t b (g1 b) = .own .foreign k ∧ _ | .own (.id _) k => (labOut g w.heap.size ids t b (g1 b) = .free ∨ ∃ i k', labOut g w.heap.size ids t b (g1 b) = .own (.id i) k' ∧ k ≤ k') ∧ _
    cases hgb : g b with
    | free => simp only [hgb, labIn] at h1 ⊢; rw [h1.1]; exact ⟨rfl, h1.2⟩
    | own o k => cases o with
      | foreign => simp only [hgb, labIn] at h1 ⊢; rw [h1.1]; simp only [labOut, hb, if_true, hgb]; exact ⟨trivial, h1.2⟩
      | id i =>
        cases hi : idxOf i ids with
        | none =>
          simp only [hgb, labIn, hi] at h1 ⊢
          rw [h1.1]
          simp only [labOut, hb, if_true, hgb]
          exact ⟨.inr ⟨i, k, rfl, Nat.le_refl _⟩, fun off v _ hv => by simpa only [World.cell?, h1.2] using hv⟩
        | some k' =>
          simp only [hgb, labIn, hi] at h1 ⊢
          refine ⟨?_, h1.2⟩
          rcases h1.1 with h2 | ⟨i', k'', h2, h3⟩
          · rw [h2]; exact .inl rfl
          · rw [h2]; exact .inr ⟨_, k'', rfl, h3⟩
  have hmem : MemLe (G.st.env w' g1 β1) (s2.env w' g2 β2) := by
    refine ⟨fun b off v ⟨h1, h2⟩ => ?_, fun b ob h1 h2 => ⟨by show labOut g w.heap.size ids t b (g1 b) = .free; have h1 : g1 b = .free := h1; rw [h1]; rfl, h2⟩⟩
    refine ⟨h1, ?_⟩
    have h2 : okAt g1 b off := h2
    show okAt g2 b off
    unfold okAt at h2 ⊢
    show match labOut g w.heap.size ids t b (g1 b) with | .free => True | .own _ k => off < k
    cases hgb : g1 b with
    | free => simp [labOut]
    | own o k =>
      rw [hgb] at h2
      cases o with
      | foreign =>
        simp only [labOut]
        by_cases hb : b < w.heap.size
        · rw [if_pos hb]
          rcases hfor b k hb hgb with h3 | ⟨i, h3, _⟩ <;> (rw [h3]; exact h2)
        · rw [if_neg hb]; exact h2
      | id i => exact h2
  have hentOut : ∀ (base : Nat) (e : Ent) (ver : Nat) (fr : Bool) (c : AVal), s.entOut ids t base e = .obj ver fr c → ∃ v0 c0, e = .obj v0 fr c0 ∧ ver = base + v0 ∧ c = c0.ren (s.refOut ids t) := fun base e ver fr c he => by
    cases e with
    | dead => cases he
    | obj v0 fr0 c0 =>
      simp only [AS.entOut, Ent.obj.injEq] at he
      obtain ⟨rfl, rfl, rfl⟩ := he
      exact ⟨v0, c0, rfl, rfl, rfl⟩
  have hout : RenLe (s.refOut ids t) (G.st.env w' g1 β1) (s2.env w' g2 β2) := by
    refine ⟨hmem, fun id ver r hr hb => ?_⟩
    cases id with
    | old k =>
      obtain ⟨hb1, hb2⟩ := hb
      have hb1 : G.olds[k]? ≠ none := hb1
      have hk : k < ids.length := by
        rcases Nat.lt_or_ge k ids.length with h' | h'
        · exact h'
        · exact absurd (List.getElem?_eq_none (by omega)) hb1
      have hid : ids[k]? = some ids[k] := List.getElem?_eq_getElem hk
      simp only [AS.refOut, hid, Option.some.injEq] at hr
      subst hr
      obtain ⟨e, he1, he2⟩ := hgO k _ hid
      refine ⟨⟨by show s2.ent _ ≠ none; rw [he2]; simp, fun v fr c hh => ?_⟩, fun ⟨fr, c, hh⟩ => ⟨?_, hβO k _ hid⟩⟩
      · have hh : s2.ent ids[k] = some (.obj v fr c) := hh
        rw [he2, Option.some.injEq] at hh
        obtain ⟨v0, c0, rfl, rfl, _⟩ := hentOut _ _ _ _ _ hh
        have := hb2 v0 fr c0 he1
        omega
      · have hh : s2.ent ids[k] = some (.obj (s.verOf ids[k] + ver) fr c) := hh
        rw [he2, Option.some.injEq] at hh
        obtain ⟨v0, c0, rfl, hv0, _⟩ := hentOut _ _ _ _ _ hh
        obtain rfl : ver = v0 := by omega
        exact ⟨fr, c0, he1⟩
    | new i j =>
      simp only [AS.refOut, Option.some.injEq] at hr
      subst hr
      obtain ⟨hb1, hb2⟩ := hb
      have hb1 : ([G.news].getD i [])[j]? ≠ none := hb1
      have hb2 : ∀ v fr c, ([G.news].getD i [])[j]? = some (.obj v fr c) → ver ≤ v := hb2
      cases i with
      | succ i => simp at hb1
      | zero =>
        simp only [List.getD_cons_zero] at hb1 hb2
        have hne : G.news ≠ [] := fun e => by rw [e] at hb1; simp at hb1
        obtain ⟨e, he⟩ := Option.ne_none_iff_exists'.1 hb1
        have he2 := hgN hne j
        rw [he, Option.map_some] at he2
        refine ⟨⟨by show s2.ent (.new t j) ≠ none; rw [he2]; simp, fun v fr c hh => ?_⟩, fun ⟨fr, c, hh⟩ => ⟨?_, hβN hne j⟩⟩
        · have hh : s2.ent (.new t j) = some (.obj v fr c) := hh
          rw [he2, Option.some.injEq] at hh
          obtain ⟨v0, c0, rfl, rfl, _⟩ := hentOut _ _ _ _ _ hh
          have := hb2 v0 fr c0 he
          simp only
          omega
        · have hh : s2.ent (.new t j) = some (.obj ver fr c) := hh
          rw [he2, Option.some.injEq] at hh
          obtain ⟨v0, c0, rfl, hv0, _⟩ := hentOut _ _ _ _ _ hh
          obtain rfl : ver = v0 := by omega
          exact ⟨fr, c0, he⟩
  have hle2 : EnvLe (s.env w g β) (s2.env w' g2 β2) := by
    refine ⟨Trans.mem htr2, fun id ver hb => ?_, fun id ver hb hc => ?_⟩
    · obtain ⟨hb1, hb2⟩ := hb
      have hb1 : s.ent id ≠ none := hb1
      have hb2 : ∀ v fr c, s.ent id = some (.obj v fr c) → ver ≤ v := hb2
      by_cases hid : id ∈ ids
      · obtain ⟨k, hk⟩ := List.mem_iff_getElem?.1 hid
        obtain ⟨e, he1, he2⟩ := hgO k id hk
        obtain ⟨fr1, c1, hs1⟩ := hverOf id hid
        refine ⟨by show s2.ent _ ≠ none; rw [he2]; simp, fun v fr c hh => ?_⟩
        have hh : s2.ent id = some (.obj v fr c) := hh
        rw [he2, Option.some.injEq] at hh
        obtain ⟨v0, c0, rfl, rfl, _⟩ := hentOut _ _ _ _ _ hh
        have := hb2 _ _ _ hs1
        omega
      · have := hgS id hid (hnew id hb1)
        exact ⟨by show s2.ent _ ≠ none; rw [this]; exact hb1, fun v fr c hh => hb2 v fr c (this.symm.trans hh)⟩
    · obtain ⟨hb1, hb2⟩ := hb
      have hb1 : s.ent id ≠ none := hb1
      have hb2 : ∀ v fr c, s.ent id = some (.obj v fr c) → ver ≤ v := hb2
      obtain ⟨fr, c, hh⟩ := hc
      have hh : s2.ent id = some (.obj ver fr c) := hh
      by_cases hid : id ∈ ids
      · obtain ⟨k, hk⟩ := List.mem_iff_getElem?.1 hid
        obtain ⟨e, he1, he2⟩ := hgO k id hk
        obtain ⟨fr1, c1, hs1⟩ := hverOf id hid
        rw [he2, Option.some.injEq] at hh
        obtain ⟨v0, c0, rfl, hv0, _⟩ := hentOut _ _ _ _ _ hh
        have hver := hb2 _ _ _ hs1
        obtain rfl : v0 = 0 := by omega
        have hver' : ver = s.verOf id := by omega
        refine ⟨⟨fr1, c1, by rw [hver']; exact hs1⟩, ?_⟩
        show β2 id = β id
        rw [hβO k id hk]
        have hin : s.entIn ids id = .obj 0 fr1 (c1.ren (s.refIn ids)) := by simp [AS.entIn, hs1]
        have h0 : ((lent (ids.map (s.entIn ids))).env w (fun b => labIn ids (g b)) (placeIn β ids)).bnd (.old k) 0 := by
          refine ⟨?_, fun _ _ _ _ => Nat.zero_le _⟩
          show (ids.map (s.entIn ids))[k]? ≠ none
          simp [hk]
        have := (hle.cur (.old k) 0 h0 ⟨fr, c0, he1⟩).2
        have this : β1 (.old k) = (ids[k]?).bind β := this
        rw [this, hk]; rfl
      · have := hgS id hid (hnew id hb1)
        exact ⟨⟨fr, c, this.symm.trans hh⟩, hβS id hid (hnew id hb1)⟩
  have hobj2 : Objs (s2.env w' g2 β2) := by
    intro id ver fr c hh
    have hh : s2.ent id = some (.obj ver fr c) := hh
    by_cases hid : id ∈ ids
    · obtain ⟨k, hk⟩ := List.mem_iff_getElem?.1 hid
      obtain ⟨e, he1, he2⟩ := hgO k id hk
      rw [he2, Option.some.injEq] at hh
      obtain ⟨v0, c0, rfl, _, rfl⟩ := hentOut _ _ _ _ _ hh
      refine ObjR_ren hout (hobjs (.old k) v0 fr c0 he1) (hβO k id hk) fun pl _ => ⟨rfl, fun n hg => ?_, fun hg => ?_⟩
      · have hg : g1 pl.b = .own (.id (.old k)) n := hg
        show labOut g w.heap.size ids t pl.b (g1 pl.b) = _
        rw [hg]
        simp [labOut, idOut, List.getD_eq_getElem?_getD, hk]
      · have hg : g1 pl.b = .free := hg
        show labOut g w.heap.size ids t pl.b (g1 pl.b) = _
        rw [hg]; rfl
    · by_cases hne : G.news ≠ [] ∧ ∃ j, id = .new t j
      · obtain ⟨hne, j, rfl⟩ := hne
        rw [hgN hne j, Option.map_eq_some_iff] at hh
        obtain ⟨e, he, hh⟩ := hh
        obtain ⟨v0, c0, rfl, _, rfl⟩ := hentOut _ _ _ _ _ hh
        refine ObjR_ren hout (hobjs (.new 0 j) v0 fr c0 (by show ([G.news].getD 0 [])[j]? = _; simpa using he)) (hβN hne j) fun pl _ => ⟨rfl, fun n hg => ?_, fun hg => ?_⟩
        · have hg : g1 pl.b = .own (.id (.new 0 j)) n := hg
          show labOut g w.heap.size ids t pl.b (g1 pl.b) = _
          rw [hg]
          rfl
        · have hg : g1 pl.b = .free := hg
          show labOut g w.heap.size ids t pl.b (g1 pl.b) = _
          rw [hg]; rfl
      · have hor : G.news = [] ∨ ∀ j, id ≠ .new t j := by
          by_cases hh : G.news = []
          · exact .inl hh
          · exact .inr fun j e => hne ⟨hh, j, e⟩
        rw [hgS id hid hor] at hh
        have ho := h.objs id ver fr c hh
        refine ho.mono hle2 (hβS id hid hor) fun pl hpl => ?_
        have hpl : β id = some pl := hpl
        obtain ⟨hb, hlab⟩ := ho.label (pl := pl) hpl
        have hb : pl.b < w.heap.size := hb
        have h1 := htr.blk pl.b hb
        have hidx : idxOf id ids = none := by
          cases hi : idxOf id ids with
          | none => rfl
          | some k => exact absurd (List.mem_of_getElem? (idxOf_some hi)) hid
        show w'.heap[pl.b]? = w.heap[pl.b]? ∧ labOut g w.heap.size ids t pl.b (g1 pl.b) = g pl.b
        rcases hlab with ⟨k, hk⟩ | ⟨_, hk⟩
        · have hk : g pl.b = .own (.id id) k := hk
          simp only [hk, labIn, hidx] at h1
          rw [h1.1]
          simp only [labOut, hb, if_true]
          exact ⟨h1.2, trivial⟩
        · have hk : g pl.b = .free := hk
          simp only [hk, labIn] at h1
          rw [h1.1, hk]
          exact ⟨h1.2, rfl⟩
  have hsl : s2.slots = s.slots := by rw [← hs2, slots_setEnts, slots_made]
  exact ⟨g2, β2, h.step hsl htr2 hle2 hobj2, VS_ren hout hval⟩

end
end Go.Ab

/-
  Calls: the operation.
-/
namespace Go.Ab

theorem reach_nodup (s : AS) : ∀ (n : Nat) (todo acc : List Id), acc.Nodup → (s.reach n todo acc).Nodup
  | 0, _, acc, h => by simpa [AS.reach] using h
  | _ + 1, [], acc, h => by simpa [AS.reach] using h
  | n + 1, id :: todo, acc, h => by
    rw [AS.reach]
    split
    · exact reach_nodup s n todo acc h
    · rename_i hc
      refine reach_nodup s n _ _ ?_
      rw [List.nodup_append]
      refine ⟨h, by simp, fun x hx y hy e => ?_⟩
      simp only [List.mem_singleton] at hy
      subst hy e
      exact hc (by simpa using hx)

theorem lends_nodup (s : AS) (vs : List AVal) : (s.lends vs).Nodup := reach_nodup s _ _ _ (by simp)

section
variable {P : Program} {C : Ctx} {g : Nat → Lab} {β : Id → Option Pl} {s : AS} {a : Act} {w : World} {o : Oper}

theorem enter_runs (h : Inv C g β s a w) {f : FuncId} {en : Entry} (hd : Does P f en) {ids : List Id} (hn : ids.Nodup) {vs : List AVal} {ys : List Value} (hv : VSs (s.env w g β) vs ys)
    (hr : (execOp a.eval o).run P w = (callFunc f ys.toArray).run P w) {s' : AS} (he : (s.enter en o.dst ids vs).eval = some s') : Runs P o a w (Sts C s') := by
  unfold AS.enter at he
  obtain ⟨hall, he⟩ := eval_guard.1 he
  obtain ⟨x, hx, he⟩ := eval_get.1 he
  have hp : ∀ id ∈ ids, ∃ r, s.obj id = some r := fun id hid => by
    have := List.all_eq_true.1 hall id hid
    exact Option.isSome_iff_exists.1 this
  have hdo := hd w (fun b => labIn ids (g b)) (placeIn β ids) (vs.map (AVal.ren (s.refIn ids))) (ids.map (s.entIn ids)) ys x (VSs.ren (in_le ids) hv) (in_objs ids hn h.objs) hx
  have key : ∀ v w', After ((lent (ids.map (s.entIn ids))).env w (fun b => labIn ids (g b)) (placeIn β ids)) (en.out (vs.map (AVal.ren (s.refIn ids))) (ids.map (s.entIn ids)) x) v w' → Sts C s' (a.put o.dst v) w' := by
    intro v w' ha
    unfold AS.back at he
    cases hdst : o.dst with
    | some t =>
      rw [hdst] at he
      obtain ⟨hg, he⟩ := eval_guard.1 he
      obtain rfl := eval_ok.1 he
      simp only [Bool.and_eq_true, beq_iff_eq, Bool.or_eq_true] at hg
      obtain ⟨hl, hg⟩ := hg
      have hvir : (en.out (vs.map (AVal.ren (s.refIn ids))) (ids.map (s.entIn ids)) x).news = [] ∨ s.virgin t = true := by
        rcases hg with hg | hg
        · exact .inl (by simpa using hg)
        · exact .inr hg
      obtain ⟨g2, β2, h1, h2⟩ := back_sound h hn hp hl hvir ha
      exact ⟨g2, β2, h1.put (some t) h2⟩
    | none =>
      rw [hdst] at he
      obtain ⟨hg, he⟩ := eval_guard.1 he
      obtain rfl := eval_ok.1 he
      simp only [Bool.and_eq_true, beq_iff_eq] at hg
      obtain ⟨hl, hg⟩ := hg
      have hnew : (en.out (vs.map (AVal.ren (s.refIn ids))) (ids.map (s.entIn ids)) x).news = [] := by simpa using hg
      obtain ⟨g2, β2, h1, _⟩ := back_sound (t := 0) h hn hp hl (.inl hnew) ha
      rw [hnew] at h1
      exact ⟨g2, β2, h1⟩
  rcases hdo with ⟨hen, hc⟩ | ⟨v, w', hva, ha⟩
  · exact .inr (.inr ⟨f, ys.toArray, w, hr.trans hen, hc.mono fun e w' ⟨v, he, ha⟩ => ⟨v, he, key v w' ha⟩⟩)
  · exact .inl ⟨v, w', hr.trans hva, key v w' ha⟩

theorem call_runs (h : Inv C g β s a w) {c : Call} {F : Operand} {f : FuncId} {caps : AVal} {en : Entry} (ho : o.op = .call c) (hc : c.callee = .value F) (hF : s.ev F = .fn f caps) (hd : Does P f en) {s' : AS}
    (he : (s.call en o.dst (c.args.toList.map s.ev ++ caps.list)).eval = some s') : Runs P o a w (Sts C s') := by
  obtain ⟨cal, args, tys⟩ := c
  simp only at hc he
  subst hc
  obtain ⟨vs, hy, hvc⟩ := fn_of (hF ▸ h.ev F)
  have hargs := (h.evs args.toList).append (VC_VSs hvc)
  have hr : (execOp a.eval o).run P w = (callFunc f (args.toList.map a.eval ++ vs).toArray).run P w := by
    have e1 : execOp a.eval o = (do let d ← resolve a.eval { callee := .value F, args, argTypes := tys } o.type; invoke d.target d.args) := by simp only [execOp, ho]
    rw [e1]
    simp only [resolve, hy, Deferred.ofValue, Sem.run_bind, Sem.run_pure, Result.andThen_ok, invoke]
    congr 2
    simp
  unfold AS.call at he
  obtain ⟨r, h1, h2⟩ := eval_bind.1 he
  obtain ⟨g', i1, e1, _, f1⟩ := freezeAll_sound r.2 h
  exact enter_runs i1 hd (lends_nodup _ _) (conv_rep rfl h.objs e1 _ _ _ r hargs h1 f1) hr h2

end
end Go.Ab
/-
  Soundness of the operations, more of them: pointers without a type, texts out of rows, zeros, the lesser and the greater.
-/
namespace Go.Ab

section
variable {P : Program} {C : Ctx} {g : Nat → Lab} {β : Id → Option Pl} {s : AS} {a : Act} {w : World} {o : Oper}

theorem builtin_runs {b : Builtin} {args : Array Operand} {ts : Array TypeId} {F : TypeId → Array Value → Sem Value} {x : Value} {w' : World} {s' : AS} (ho : o.op = .call { callee := .builtin b, args, argTypes := ts })
    (hb : ∀ ty cs xs, builtin b ts ty cs xs = (do pure (.value (← F ty xs)))) (hf : ∀ ty, (F ty (args.map a.eval)).run P w = .ok x w') (h2 : ∃ g' β', Inv C g' β' s' (a.put o.dst x) w') : Runs P o a w (Sts C s') := by
  refine .inl ⟨x, w', ?_, h2⟩
  simp only [execOp, ho, resolve, Sem.run_bind, Sem.run_pure, Result.andThen_ok, invoke]
  rw [hb, Sem.run_bind, hf]
  rfl

theorem convP_runs (h : Inv C g β s a w) {src dst : TypeId} {x : Operand} (ho : o.op = .convert src dst x) {id : Id} {ver : Nat} (hx : s.ev x = .ptr id ver [] 0) {v : AVal} (he : (convP P s src dst id ver).eval = some v) : Runs P o a w (Sts C (s.put o.dst v)) := by
  have hv := h.ev x
  rw [hx] at hv
  obtain ⟨ad, hy, hb, hc⟩ := ptr_of hv
  have fin : v = .ptr id ver [] 0 → (convert src dst (a.eval x)).run P w = .ok (a.eval x) w → Runs P o a w (Sts C (s.put o.dst v)) := by
    intro h1 h2
    subst h1
    exact h.value hv (exec_value (f := convert src dst (a.eval x)) (by simp only [execOp, ho]) h2)
  unfold convP at he
  split at he
  · rename_i v0 fr e c hob
    have hent := obj_some hob
    obtain ⟨pl', cur, e', hp', hh, hg, hk, hV⟩ := (h.objs id v0 fr _ hent).box rfl
    have hk : e' = e := hk
    subst hk
    have hh : w.heap[pl'.b]? = some (.cells cur e' (0, 0)) := hh
    have hsz := hV.size
    have hsz : cur.toList.length = c.size := hsz
    have hsh : w.shape? pl'.b = some (e', c.size) := by simp only [World.shape?, hh]; rw [← hsz]; simp
    have hp' : β id = some pl' := hp'
    split at he
    · rename_i t hS hD
      obtain ⟨h1, h2⟩ := eval_guard.1 he
      have h2 := eval_ok.1 h2
      simp only [Bool.and_eq_true, beq_iff_eq, Bool.not_eq_true', beq_eq_false_iff_ne] at h1
      obtain ⟨⟨rfl, h3⟩, h4⟩ := h1
      obtain ⟨pl, hp, rfl⟩ := hc ⟨fr, _, hent⟩
      have hp : β id = some pl := hp
      rw [hp'] at hp
      obtain rfl : pl' = pl := by simpa using hp
      refine fin h2.symm ?_
      rw [hy]
      cases hi : P.info? t with
      | none => exact absurd (by simp [Program.cellsOf, hi]) h3
      | some j =>
        have hj : j.size ≠ 0 := by rw [← cellsOf_eq hi] at *; exact h3
        exact Go.Lib.run_to_unsafe w _ hS hD hi hj hsh (by show 0 < c.size; omega)
    · rename_i u hS hD
      obtain ⟨h1, h2⟩ := eval_guard.1 he
      have h2 := eval_ok.1 h2
      simp only [Bool.and_eq_true, beq_iff_eq, Bool.not_eq_true', beq_eq_false_iff_ne] at h1
      obtain ⟨⟨rfl, h3⟩, h4⟩ := h1
      obtain ⟨pl, hp, rfl⟩ := hc ⟨fr, _, hent⟩
      have hp : β id = some pl := hp
      rw [hp'] at hp
      obtain rfl : pl' = pl := by simpa using hp
      refine fin h2.symm ?_
      rw [hy]
      cases hi : P.info? u with
      | none => exact absurd (by simp [Program.cellsOf, hi]) h3
      | some j => exact Go.Lib.run_from_unsafe w _ hS hD hi hsh h4
    · simp only [eval_fail] at he
  · simp only [eval_fail] at he

theorem eqP_runs (h : Inv C g β s a w) {T U : TypeId} {op : BinOp} {x y : Operand} (ho : o.op = .binOp op T x y U) {i j : Id} {v1 v2 : Nat} (hx : s.ev x = .ptr i v1 [] 0) (hy : s.ev y = .ptr j v2 [] 0) {v : AVal} (he : (eqP P s T op i v1 j v2).eval = some v) :
    Runs P o a w (Sts C (s.put o.dst v)) := by
  unfold eqP at he
  split at he
  · rename_i v' fr c hob
    obtain ⟨h1, h2⟩ := eval_guard.1 he
    simp only [Bool.and_eq_true, beq_iff_eq, decide_eq_true_eq] at h1
    obtain ⟨⟨⟨rfl, rfl⟩, rfl⟩, hpt⟩ := h1
    have hent := obj_some hob
    have hvx := h.ev x
    have hvy := h.ev y
    rw [hx] at hvx
    rw [hy] at hvy
    obtain ⟨ad, hax, _, hc⟩ := ptr_of hvx
    obtain ⟨ad', hay, _, hc'⟩ := ptr_of hvy
    obtain ⟨pl, hp, rfl⟩ := hc ⟨fr, c, hent⟩
    obtain ⟨pl', hp', rfl⟩ := hc' ⟨fr, c, hent⟩
    rw [hp] at hp'
    obtain rfl : pl = pl' := by simpa using hp'
    have hT : ∃ t j, P.underlying T = some (.pointer t) ∧ P.info? t = some j := by
      unfold ptOk at hpt
      split at hpt
      · rename_i t ht
        obtain ⟨j, hj⟩ := Option.isSome_iff_exists.1 hpt
        exact ⟨t, j, ht, hj⟩
      · cases hpt
    obtain ⟨t, j, hT, hj⟩ := hT
    have hq : (Op.equal T (.pointer (some ⟨pl.b, 0, none⟩)) (.pointer (some ⟨pl.b, 0, none⟩))).run P w = .ok true w :=
      equal_run fun d => by simp [Op.equalIn, run_underlying hT, sizeOf, typeInfo, hj, run_sameAddr_same]
    have hgd : (eqGuard op T x y (a.eval x) (a.eval y)).run P w = .ok () w := by rw [hax, hay]; exact eqGuard_plain (by simp) rfl
    have fin : ∀ z, (binOp op T (a.eval x) (a.eval y)).run P w = .ok z w → VS (s.env w g β) v z → Runs P o a w (Sts C (s.put o.dst v)) := by
      intro z h1 h3
      refine h.value h3 ?_
      simp [execOp, ho, h1, hgd]
    split at h2
    · obtain rfl := eval_ok.1 h2
      refine fin (.bool true) ?_ (VS_bool true)
      rw [hax, hay]
      simp [binOp, hq]
    · obtain rfl := eval_ok.1 h2
      refine fin (.bool false) ?_ (VS_bool false)
      rw [hax, hay]
      simp [binOp, hq]
    · simp only [eval_fail] at h2
  · simp only [eval_fail] at he

theorem args1 {c : Call} {b : Builtin} {x : Operand} (hc : c.callee = .builtin b) (ha : c.args.toList = [x]) : c = { callee := .builtin b, args := #[x], argTypes := c.argTypes } := by
  obtain ⟨cal, args, tys⟩ := c
  simp only at hc ha
  have ha' : args = #[x] := by apply Array.ext'; simpa using ha
  subst hc ha'
  rfl
theorem args2 {c : Call} {b : Builtin} {x y : Operand} (hc : c.callee = .builtin b) (ha : c.args.toList = [x, y]) : c = { callee := .builtin b, args := #[x, y], argTypes := c.argTypes } := by
  obtain ⟨cal, args, tys⟩ := c
  simp only at hc ha
  have ha' : args = #[x, y] := by apply Array.ext'; simpa using ha
  subst hc ha'
  rfl
theorem tys1 {ts : Array TypeId} {T : TypeId} (h : ts.toList = [T]) : ts = #[T] := by apply Array.ext'; simpa using h
theorem tys2 {ts : Array TypeId} {T U : TypeId} (h : ts.toList = [T, U]) : ts = #[T, U] := by apply Array.ext'; simpa using h

theorem cap_runs (h : Inv C g β s a w) {c : Call} {x : Operand} {T e : TypeId} (ho : o.op = .call c) (hc : c.callee = .builtin .cap) (ha : c.args.toList = [x]) (ht : c.argTypes.toList = [T]) (hx : s.ev x = .nils) (hT : P.underlying T = some (.slice e)) :
    Runs P o a w (Sts C (s.put o.dst (.d (.int .i64) (0 : Int)))) := by
  rw [args1 hc ha, tys1 ht] at ho
  have hv := h.ev x
  rw [hx] at hv
  have hy := nils_of hv
  refine builtin_runs ho (F := fun ty xs => Builtin.cap_ #[T] ty xs) (fun ty cs xs => rfl) (x := .int .i64 0) (w' := w) (fun ty => ?_) ⟨g, β, h.put o.dst (VS_int _ _)⟩
  simp [Builtin.cap_, run_underlying hT, hy, goInt]

theorem slData_runs (h : Inv C g β s a w) {c : Call} {x : Operand} {id : Id} {ver len : Nat} (ho : o.op = .call c) (hc : c.callee = .builtin .unsafeSliceData) (ha : c.args.toList = [x]) (hx : s.ev x = .sref id ver [] 0 0 len) (hl : 0 < len) :
    Runs P o a w (Sts C (s.put o.dst (.ptr id ver [.idx 0] 0))) := by
  rw [args1 hc ha] at ho
  have hv := h.ev x
  rw [hx] at hv
  obtain ⟨ad, cap, hy, hcap, hs, hb, hcur⟩ := sref_of hv
  obtain ⟨ad, rfl⟩ := Option.isSome_iff_exists.1 (hs hl)
  refine builtin_runs ho (F := fun ty xs => Builtin.unsafeSliceData_ c.argTypes ty xs) (fun ty cs xs => rfl) (x := .pointer (some ad)) (w' := w) (fun ty => ?_) ⟨g, β, h.put o.dst ?_⟩
  · rw [show (#[x].map a.eval) = #[a.eval x] by simp, hy]
    exact Go.Lib.run_unsafeSliceData_row w _ _ _ _ _ (by omega)
  · refine ⟨[.pointer (some ad)], ?_, rfl⟩
    simp only [V]
    refine ⟨ad, rfl, hb, fun hc => ?_⟩
    have h1 := hcur hc
    cases hp : (s.env w g β).β id with
    | none => rw [hp] at h1; simp only at h1; cases h1.1
    | some pl =>
      rw [hp] at h1
      simp only at h1
      exact ⟨pl, rfl, by simpa using h1.1 (.inl hl)⟩

theorem min_runs (h : Inv C g β s a w) {c : Call} {mx : Bool} (ho : o.op = .call c) (hc : c.callee = .builtin (if mx then .max else .min)) {v : AVal} (he : (minA mx (c.args.toList.map s.ev)).eval = some v) : Runs P o a w (Sts C (s.put o.dst v)) := by
  unfold minA at he
  split at he
  · rename_i k x k' y hxy
    obtain ⟨h1, h2⟩ := eval_guard.1 he
    obtain rfl := eval_ok.1 h2
    have h1 : k = k' := by simpa using h1
    subst h1
    have hal : ∃ p q, c.args.toList = [p, q] ∧ s.ev p = .d (.int k) x ∧ s.ev q = .d (.int k) y := by
      match hh : c.args.toList, hxy with
      | [p, q], hxy => simp only [List.map_cons, List.map_nil, List.cons.injEq] at hxy; exact ⟨p, q, rfl, hxy.1, hxy.2.1⟩
      | [], hxy => simp at hxy
      | [_], hxy => simp at hxy
      | _ :: _ :: _ :: _, hxy => simp at hxy
    obtain ⟨p, q, ha, hp, hq⟩ := hal
    rw [args2 hc ha] at ho
    have hvp := h.ev p
    have hvq := h.ev q
    rw [hp] at hvp
    rw [hq] at hvq
    have ep := int_of hvp
    have eq := int_of hvq
    cases mx with
    | true =>
      refine builtin_runs ho (F := fun ty xs => Builtin.max_ c.argTypes ty xs) (fun ty cs xs => rfl) (x := .int k (if x < y then y else x)) (w' := w) (fun ty => ?_) ⟨g, β, h.put o.dst (VS_int _ _)⟩
      rw [show (#[p, q].map a.eval) = #[a.eval p, a.eval q] by simp, ep, eq]
      simp [Builtin.max_, Builtin.max2]
    | false =>
      refine builtin_runs ho (F := fun ty xs => Builtin.min_ c.argTypes ty xs) (fun ty cs xs => rfl) (x := .int k (if y < x then y else x)) (w' := w) (fun ty => ?_) ⟨g, β, h.put o.dst (VS_int _ _)⟩
      rw [show (#[p, q].map a.eval) = #[a.eval p, a.eval q] by simp, ep, eq]
      simp [Builtin.min_, Builtin.min2]
  · simp only [eval_fail] at he

theorem zeroCells_made (z : Array Value) (n : Nat) : Builtin.zeroCells z n = madeCells z (n * z.size) := rfl

theorem grow_runs (h : Inv C g β s a w) {c : Call} {x y : Operand} {T X : TypeId} {k : IntKind} {n : Int} (ho : o.op = .call c) (hc : c.callee = .builtin .append) (ha : c.args.toList = [x, y]) (ht : c.argTypes.toList = [T, X]) (hx : s.ev x = .nils) (hy : s.ev y = .d (.int k) n) {s' : AS}
    (he : (growA P s o.dst T X n).eval = some s') : Runs P o a w (Sts C s') := by
  rw [args2 hc ha, tys2 ht] at ho
  have hvx := h.ev x
  have hvy := h.ev y
  rw [hx] at hvx
  rw [hy] at hvy
  have ex := nils_of hvx
  have ey := int_of hvy
  unfold growA at he
  split at he
  · rename_i e t b q kn hel hd hX
    obtain ⟨hT, hz, i, zv, hi, his, hib, hzv, hzr⟩ := elemOfT_sound hel
    obtain ⟨hq, h2⟩ := eval_guard.1 he
    obtain ⟨h3, h4⟩ := eval_chk.1 h2
    obtain rfl := eval_ok.1 h4
    simp only [Bool.and_eq_true, decide_eq_true_eq, roomA] at h3
    obtain ⟨h5, h7, h8⟩ := h3
    obtain ⟨m, rfl⟩ := Int.eq_ofNat_of_zero_le (Int.le_of_lt h5)
    simp only [Int.toNat_natCast] at h7 h8 ⊢
    have hzc : zv.cells.size = t.size := by have := (hzr (s.env w g β)).size; simpa using this
    have hr := fun ty => Go.Lib.run_append_nil_zeros (P := P) w T X ty e i zv k kn hT hX hi hzv m (by omega) (by rw [his]; exact hz) (by omega) (by rw [hib]; omega)
    obtain ⟨cap, hcap⟩ : ∃ cap, grownCap w m 0 e = cap := ⟨_, rfl⟩
    have c1 : m ≤ cap := by rw [← hcap]; exact grownCap_ge _ _ _ _
    have c2 : cap ≤ maxLen := by rw [← hcap]; exact grownCap_le_maxLen _ _ _ _ (by unfold maxLen; omega)
    rw [hcap] at hr
    obtain ⟨cur, hcur⟩ : ∃ cur, Builtin.zeroCells zv.cells m ++ Builtin.zeroCells zv.cells (cap - m) = cur := ⟨_, rfl⟩
    rw [hcur] at hr
    have s1 : cur.size = cap * t.size := by
      rw [← hcur, Array.size_append, zeroCells_size, zeroCells_size, hzc, ← Nat.add_mul]
      congr 1
      omega
    have hall := range_zero_chunks (hzr (s.env w.drew g β)) m
    have s2 : cur.toList.take (m * t.size) = (madeCells zv.cells (m * t.size)).toList := by
      rw [← hcur, Array.toList_append, zeroCells_made, hzc]
      have hl : (madeCells zv.cells (m * t.size)).toList.length = m * t.size := by simp [size_madeCells]
      rw [List.take_append_of_le_length (by omega), List.take_of_length_le (by omega)]
    obtain ⟨g2, β2, i2, hv2⟩ := (h.drew).newVec hq (e := e) (l := List.replicate m t.zero) (cur := cur) (cap := cap) hz (by rw [List.length_replicate, s2]; exact hall) s1 (by rw [List.length_replicate]; exact c1) c2
    rw [List.length_replicate] at hv2
    refine builtin_runs ho (F := fun ty xs => Builtin.append_ #[T, X] ty xs) (fun ty cs xs => rfl) (fun ty => ?_) ⟨g2, β2, i2.put o.dst hv2⟩
    rw [show (#[x, y].map a.eval) = #[a.eval x, a.eval y] by simp, ex, ey]
    exact hr ty
  · simp only [eval_fail] at he

theorem run_loadI : ∀ (xs : List Int) (a : Addr) (acc : ByteArray), (∀ j x, xs[j]? = some x → w.cell? (a.add j) = some (.int .u8 x)) →
    (loadBytes a acc xs.length).run P w = .ok ⟨acc.data ++ (xs.map fun n => UInt8.ofNat n.toNat).toArray⟩ w
  | [], a, acc, _ => by simp [loadBytes]
  | x :: l, a, acc, h => by
    have h0 : w.cell? a = some (.int .u8 x) := by
      have := h 0 x rfl
      simpa [Addr.add] using this
    have ih := run_loadI l (a.add 1) (acc.push x.toNat.toUInt8) (fun j y hy => by
      have := h (j + 1) y (by simpa using hy)
      have e : (a.add 1).add j = a.add (j + 1) := by
        unfold Addr.add
        by_cases hj : j = 0
        · subst hj; simp
        · simp [hj]; omega
      rw [e]; exact this)
    simp only [List.length_cons, loadBytes, Sem.run_bind, run_load, h0, Result.andThen]
    rw [ih]
    congr 1
    apply ByteArray.ext
    simp [ByteArray.push]

theorem text_runs (h : Inv C g β s a w) {c : Call} {x y : Operand} {T U : TypeId} {id : Id} {ver : Nat} {n : Int} (ho : o.op = .call c) (hc : c.callee = .builtin .unsafeString) (ha : c.args.toList = [x, y]) (ht : c.argTypes.toList = [T, U])
    (hx : s.ev x = .ptr id ver [.idx 0] 0) (hy : s.ev y = .d (.int .i64) n) {s' : AS} (he : (textA P s o.dst T id ver n).eval = some s') : Runs P o a w (Sts C s') := by
  rw [args2 hc ha, tys2 ht] at ho
  have hvx := h.ev x
  rw [hx] at hvx
  obtain ⟨ad, hax, _, hcp⟩ := ptr_of hvx
  have hvy := h.ev y
  rw [hy] at hvy
  have hay := int_of hvy
  unfold textA at he
  split at he
  · rename_i v e l u hob hT
    obtain ⟨h1, h2⟩ := eval_guard.1 he
    obtain ⟨h3, h4⟩ := eval_chk.1 h2
    obtain rfl := eval_ok.1 h4
    simp only [Bool.and_eq_true, beq_iff_eq] at h1
    obtain ⟨⟨rfl, rfl⟩, hce⟩ := h1
    simp only [decide_eq_true_eq] at h3
    obtain ⟨h5, h6⟩ := h3
    obtain ⟨n, rfl⟩ := Int.eq_ofNat_of_zero_le (Int.le_of_lt h5)
    have h6 : n ≤ (l : List Int).length := by omega
    have hent := obj_some hob
    obtain ⟨pl, hp, rfl⟩ := hcp ⟨false, _, hent⟩
    have hp : β id = some pl := hp
    have hO : ObjR (s.env w g β) id false (.vec u (.int .u8) l) := h.objs id v false _ hent
    obtain ⟨hz, hO⟩ := hO
    have hO : (match β id with
      | none => l = []
      | some pl => ∃ cur k, w.heap[pl.b]? = some (.cells cur u (0, 0)) ∧ cur.size = pl.cap * (Ty.int .u8).size ∧ (l : List Int).length ≤ pl.cap ∧ pl.cap ≤ maxLen ∧ g pl.b = .own (.id id) k ∧
          k ≤ (l : List Int).length * (Ty.int .u8).size ∧ (false = false → k = 0) ∧ Chunks (Rep (s.env w g β) (.int .u8)) (cur.toList.take ((l : List Int).length * (Ty.int .u8).size)) l) := hO
    rw [hp] at hO
    obtain ⟨cur, k, q1, q2, q3, q4, q5, q6, q7, q8⟩ := hO
    have hk := q7 rfl
    subst hk
    have hone : (Ty.int .u8).size = 1 := rfl
    rw [hone, Nat.mul_one] at q2 q8
    have hvs := chunks_ints q8
    have hsh : w.shape? pl.b = some (u, cur.size) := by simp only [World.shape?, q1]
    have hcell : ∀ j z, ((l : List Int).take n)[j]? = some z → w.cell? ((⟨pl.b, 0, none⟩ : Addr).add j) = some (.int .u8 z) := fun j z hj => by
      rw [List.getElem?_take] at hj
      split at hj
      · rename_i hjn
        have hjl : j < (l : List Int).length := by omega
        rw [Addr.add_lit, Nat.zero_add]
        simp only [World.cell?, q1]
        have : (cur.toList.take (l : List Int).length)[j]? = some (.int .u8 z) := by rw [hvs, List.getElem?_map, hj]; rfl
        rw [List.getElem?_take, if_pos hjl] at this
        simpa using this
      · cases hj
    have hlen : ((l : List Int).take n).length = n := by rw [List.length_take]; omega
    have hlb := run_loadI (P := P) (w := w) ((l : List Int).take n) ⟨pl.b, 0, none⟩ .empty hcell
    rw [hlen] at hlb
    have hlies := Go.Lib.liesAt_bytes (P := P) (e := u) (by simpa using hce) (cur.size / P.cellsOf u) n (by
      rw [show P.cellsOf u = 1 by simpa using hce, Nat.div_one]; omega)
    have hfz : ∃ w', w.freeze ⟨pl.b, 0, none⟩ n = w' ∧ w'.os = w.os ∧ w'.tape = w.tape ∧ w'.output = w.output ∧ w'.heap.size = w.heap.size ∧ ∀ b', b' ≠ pl.b → w'.heap[b']? = w.heap[b']? := by
      refine ⟨_, rfl, ?_⟩
      unfold World.freeze
      rw [if_neg (by omega)]
      refine ⟨rfl, rfl, rfl, by simp, fun b' hb' => ?_⟩
      simp only [Array.getElem?_modify]
      rw [if_neg (fun e => hb' e.symm)]
    obtain ⟨w', hw', f1, f2, f3, f4, f5⟩ := hfz
    have i1 := h.kill hent q5 f1 f2 f3 f4 f5
    have h63 : ¬ (9223372036854775807 : Int) < (n : Int) := by unfold maxLen at q4; omega
    have hneg : ¬ (n : Int) < 0 := by omega
    have hn0 : n ≠ 0 := by omega
    have hmax : IntKind.i64.max = 9223372036854775807 := rfl
    refine builtin_runs ho (F := fun ty xs => Builtin.unsafeString_ #[T, U] ty xs) (fun ty cs xs => rfl) (x := .string (strOfBytes ((l : List Int).take n))) (w' := w') (fun ty => ?_) ⟨_, β, i1.put o.dst ⟨[.string (strOfBytes ((l : List Int).take n))], by simp only [V, Rep]; rfl, rfl⟩⟩
    rw [show (#[x, y].map a.eval) = #[a.eval x, a.eval y] by simp, hax, hay]
    have hdef : Builtin.unsafeString_ #[T, U] ty #[.pointer (some ⟨pl.b, 0, none⟩), .int .i64 n] =
        (do
          let n ← Go.asInt (.int .i64 n)
          if n < 0 then runtimePanic (.error "unsafe.String: len out of range")
          if n > IntKind.i64.max then unsupported (.unsafePointer "String: a length above the largest int")
          if n = 0 then pure (.string .empty)
          else if ← variablesAt ⟨pl.b, 0, none⟩ (← elemOf T) n.toNat then do
            let s ← loadBytes ⟨pl.b, 0, none⟩ .empty n.toNat
            freeze ⟨pl.b, 0, none⟩ n.toNat
            pure (.string s)
          else unsupported (.unsafePointer "String: not so many bytes at ptr")) := rfl
    rw [hdef]
    simp [Go.asInt, asIntOf, hmax, h63, hneg, hn0, variablesAt, hsh, elemOf, run_underlying hT, hlies, hlb, hw', strOfBytes]
  · simp only [eval_fail] at he

end
end Go.Ab

/-
  Every operation of the abstract machine is sound.
-/
namespace Go.Ab

section
variable {P : Program} {C : Ctx} {g : Nat → Lab} {β : Id → Option Pl} {s : AS} {a : Act} {w : World} {o : Oper}

theorem aop_runs {Γ : Gam} (hΓ : Sound P Γ) {objs : List Nat} (h : Inv C g β s a w) {s' : AS} (he : (aop P Γ objs o s).eval = some s') : Runs P o a w (Sts C s') := by
  unfold aop at he
  split at he
  · rename_i x hop
    obtain rfl := eval_ok.1 he
    exact move_runs h (.inl hop)
  · rename_i x hop
    obtain rfl := eval_ok.1 he
    exact move_runs h (.inr hop)
  · rename_i c x y hop
    obtain ⟨v, h1, h2⟩ := eval_bind.1 he
    obtain rfl := eval_ok.1 h2
    exact pick_runs h hop h1
  · rename_i T hop
    split at he
    · rename_i z q hz hq
      obtain ⟨h1, h2⟩ := eval_guard.1 he
      obtain rfl := eval_ok.1 h2
      simp only [Bool.and_eq_true] at h1
      exact alloc_runs h hop h1.1 h1.2
    · exact (eval_fail.1 he).elim
  · rename_i T x hop
    exact box_runs h hop he
  · rename_i T parts hop
    exact build_runs h hop he
  · rename_i T n parts hop
    exact buildSlice_runs h hop he
  · rename_i T x hop
    obtain ⟨v, h1, h2⟩ := eval_bind.1 he
    obtain rfl := eval_ok.1 h2
    exact load_runs h hop h1
  · rename_i T x v hop
    obtain ⟨v, h1, h2⟩ := eval_bind.1 he
    obtain rfl := eval_ok.1 h2
    exact store_runs h hop h1
  · rename_i x hop
    exact nilCheck_runs h hop he
  · rename_i op T x y U hop
    split at he
    · rename_i i v1 j v2 hx hy
      obtain ⟨v, h1, h2⟩ := eval_bind.1 he
      obtain rfl := eval_ok.1 h2
      exact eqP_runs h hop hx hy h1
    · obtain ⟨v, h1, h2⟩ := eval_bind.1 he
      obtain rfl := eval_ok.1 h2
      exact binOp_runs h hop h1
  · rename_i op T x hop
    obtain ⟨v, h1, h2⟩ := eval_bind.1 he
    obtain rfl := eval_ok.1 h2
    exact unOp_runs h hop h1
  · rename_i T U x hop
    split at he
    · rename_i id ver len hTU hx
      exact convK_runs h hop hx he
    · rename_i id ver hx
      obtain ⟨v, h1, h2⟩ := eval_bind.1 he
      obtain rfl := eval_ok.1 h2
      exact convP_runs h hop hx h1
    · obtain ⟨v, h1, h2⟩ := eval_bind.1 he
      obtain rfl := eval_ok.1 h2
      exact convert_runs h hop h1
  · rename_i T x hop
    exact toArr_runs h hop he
  · rename_i f first caps hop
    obtain ⟨h1, h2⟩ := eval_guard.1 he
    obtain rfl := eval_ok.1 h2
    simp only [Bool.and_eq_true] at h1
    exact makeFunc_runs h hop h1.1 h1.2
  · rename_i T l c hop
    obtain ⟨n, h1, h2⟩ := eval_bind.1 he
    obtain ⟨m, h3, h4⟩ := eval_bind.1 h2
    exact makeSlice_runs h hop h1 h3 h4
  · rename_i T x lo hi hop
    obtain ⟨v, h1, h2⟩ := eval_bind.1 he
    obtain rfl := eval_ok.1 h2
    exact slice_runs h hop h1
  · rename_i T x f hop
    obtain ⟨v, h1, h2⟩ := eval_bind.1 he
    obtain rfl := eval_ok.1 h2
    exact fieldAddr_runs h hop h1
  · rename_i T x f hop
    obtain ⟨v, h1, h2⟩ := eval_bind.1 he
    obtain rfl := eval_ok.1 h2
    exact field_runs h hop h1
  · rename_i T x i hop
    obtain ⟨n, h0, he⟩ := eval_bind.1 he
    obtain ⟨v, h1, h2⟩ := eval_bind.1 he
    obtain rfl := eval_ok.1 h2
    exact indexAddr_runs h hop h0 h1
  · rename_i T x i hop
    obtain ⟨n, h0, he⟩ := eval_bind.1 he
    obtain ⟨v, h1, h2⟩ := eval_bind.1 he
    obtain rfl := eval_ok.1 h2
    exact index_runs h hop h0 h1
  · rename_i x i hop
    obtain ⟨v, h1, h2⟩ := eval_bind.1 he
    obtain rfl := eval_ok.1 h2
    exact extract_runs h hop h1
  · rename_i c hop
    split at he
    · rename_i hc
      split at he
      · rename_i x T ha ht
        obtain ⟨v, h1, h2⟩ := eval_bind.1 he
        obtain rfl := eval_ok.1 h2
        exact len_runs h hop hc ha ht h1
      · exact (eval_fail.1 he).elim
    · rename_i hc
      split at he
      · rename_i x y T X ha ht
        split at he
        · rename_i k n hx hy
          exact grow_runs h hop hc ha ht hx hy he
        · exact append_runs h hop hc ha ht he
      · exact (eval_fail.1 he).elim
    · rename_i hc
      split at he
      · rename_i x T ha ht
        split at he
        · rename_i e hx hT
          obtain rfl := eval_ok.1 he
          exact cap_runs h hop hc ha ht hx hT
        · exact (eval_fail.1 he).elim
      · exact (eval_fail.1 he).elim
    · rename_i hc
      obtain ⟨v, h1, h2⟩ := eval_bind.1 he
      obtain rfl := eval_ok.1 h2
      exact min_runs (mx := true) h hop hc h1
    · rename_i hc
      obtain ⟨v, h1, h2⟩ := eval_bind.1 he
      obtain rfl := eval_ok.1 h2
      exact min_runs (mx := false) h hop hc h1
    · rename_i hc
      split at he
      · rename_i x ha
        split at he
        · rename_i id ver len hx
          obtain ⟨h1, h2⟩ := eval_chk.1 he
          obtain rfl := eval_ok.1 h2
          exact slData_runs h hop hc ha hx (by simpa using h1)
        · exact (eval_fail.1 he).elim
      · exact (eval_fail.1 he).elim
    · rename_i hc
      split at he
      · rename_i x y T U ha ht
        split at he
        · rename_i id ver n hx hy
          exact text_runs h hop hc ha ht hx hy he
        · exact (eval_fail.1 he).elim
      · exact (eval_fail.1 he).elim
    · rename_i F hc
      split at he
      · rename_i f caps hF
        split at he
        · rename_i en hen
          exact call_runs h hop hc hF (hΓ f _ en hen) he
        · exact (eval_fail.1 he).elim
      · exact (eval_fail.1 he).elim
    · exact (eval_fail.1 he).elim
  · exact (eval_fail.1 he).elim

end
end Go.Ab

/-
  One operation of a region, with its guard.
-/
namespace Go.Ab

def StepK (P : Program) (ops : Array Oper) (o : Oper) (a : Act) (w : World) (K : Act → World → Prop) : Prop :=
  if Region.wanted o (yielded ops a.tmps) then Runs P o a w K else K (a.put o.dst undef) w

theorem StepK.mono {P : Program} {ops : Array Oper} {o : Oper} {a : Act} {w : World} {K K' : Act → World → Prop} (h : StepK P ops o a w K) (hk : ∀ a w, K a w → K' a w) : StepK P ops o a w K' := by
  unfold StepK at *
  split
  · rename_i hw; rw [if_pos hw] at h; exact h.mono hk
  · rename_i hw; rw [if_neg hw] at h; exact hk _ _ h

/-- Something comes of it. -/
theorem Runs.some {P : Program} {o : Oper} {a : Act} {w : World} {K : Act → World → Prop} (h : Runs P o a w K) : ∃ a' w', K a' w' := by
  rcases h with ⟨x, w', _, h⟩ | ⟨w', _, h⟩ | ⟨f, args, w', _, h⟩
  · exact ⟨_, _, h⟩
  · exact ⟨_, _, h⟩
  · obtain ⟨e, w'', _, ⟨x, _, hx⟩, _⟩ := h []
    exact ⟨_, _, hx⟩

theorem StepK.some {P : Program} {ops : Array Oper} {o : Oper} {a : Act} {w : World} {K : Act → World → Prop} (h : StepK P ops o a w K) : ∃ a' w', K a' w' := by
  unfold StepK at h
  split at h
  · exact h.some
  · exact ⟨_, _, h⟩

theorem StepK.wpList {P : Program} {ops : Array Oper} {o : Oper} {a : Act} {w : World} {Q : Exit → Act → World → Prop} {l : List Oper} (h : StepK P ops o a w (wpList P ops Q l)) : Go.wpList P ops Q (o :: l) a w := by
  unfold StepK at h
  unfold Go.wpList
  split
  · rename_i hw; rw [if_pos hw] at h; exact .inl h.wp
  · rename_i hw; rw [if_neg hw] at h; exact h

theorem StepK.wpOp {P : Program} {ops : Array Oper} {o : Oper} {i : Nat} {a : Act} {w : World} {Q : Exit → Act → World → Prop} {K : Act → World → Prop} (ho : ops[i]? = Option.some o) (h : StepK P ops o a w K) : Go.wpOp P ops Q i K a w := by
  unfold StepK at h
  unfold Go.wpOp
  simp only [ho]
  split
  · rename_i hw; rw [if_pos hw] at h; exact .inl h.wp
  · rename_i hw; rw [if_neg hw] at h; exact h

theorem put_same {s : AS} {q : Nat} {v : AVal} (h : s.slot q = v) (hq : q < s.slots.length) : s.put (some q) v = s := by
  have hv : s.slots[q] = v := by simpa [AS.slot, List.getD_eq_getElem?_getD, hq] using h
  simp only [AS.put]
  rw [← hv, List.set_getElem_self]

theorem slot_lt {s : AS} {q : Nat} {t : Ty} {x : t.den} (h : s.slot q = .d t x) : q < s.slots.length := by
  rcases Nat.lt_or_ge q s.slots.length with h' | h'
  · exact h'
  · simp [AS.slot, List.getD_eq_getElem?_getD, List.getElem?_eq_none h'] at h

/-- One operation, directly. -/
def gop1 (P : Program) (Γ : Gam) (objs : List Nat) (ops : Array Oper) (o : Oper) (s : AS) : Option AS :=
  match o.guard with
  | none => (aop P Γ objs o s).eval
  | some (j, want) => match (ops[j]?).bind (·.dst) with
    | some q => match s.slot q with
      | .d .bool b => if b = want then (aop P Γ objs o s).eval else some (s.put o.dst .nil)
      | .nil => some (s.put o.dst .nil)
      | _ => none
    | none => none

theorem gop_some {R : Type} {P : Program} {Γ : Gam} {objs : List Nat} {ops : Array Oper} {o : Oper} {s : AS} {k : AS → Option R} {r : R} (h : gop P Γ objs ops o s k = some r) : ∃ s', gop1 P Γ objs ops o s = some s' ∧ k s' = some r := by
  unfold gop at h
  unfold gop1
  split at h
  · rename_i hg
    simp only [hg]
    exact run_some.1 h
  · rename_i j want hg
    simp only [hg]
    split at h
    · rename_i q hq
      simp only [hq]
      split at h
      · rename_i b hb
        have e := put_same hb (slot_lt hb)
        simp only [hb]
        cases want <;> cases b <;> simp only [sel] at h <;> rw [e] at h
        · obtain ⟨s', h1, h2⟩ := run_some.1 h
          exact ⟨s', by simpa using h1, h2⟩
        · exact ⟨_, by simp, h⟩
        · exact ⟨_, by simp, h⟩
        · obtain ⟨s', h1, h2⟩ := run_some.1 h
          exact ⟨s', by simpa using h1, h2⟩
      · rename_i hb
        simp only [hb]
        exact ⟨_, rfl, h⟩
      · cases h
    · cases h

section
variable {P : Program} {C : Ctx} {g : Nat → Lab} {β : Id → Option Pl} {s : AS} {a : Act} {w : World} {o : Oper}

theorem yielded_of (h : Inv C g β s a w) {ops : Array Oper} {j q : Nat} {b : Bool} (hq : (ops[j]?).bind (·.dst) = some q) (hb : s.slot q = .d .bool b) : yielded ops a.tmps j = some b := by
  have hv := h.slots q
  rw [hb] at hv
  have hv := bool_of hv
  have hl := slot_lt hb
  rw [← h.size] at hl
  unfold yielded
  rw [hq, Option.bind_some]
  have : a.tmps[q]? = some (.bool b) := by
    rw [Array.getElem?_eq_getElem hl]
    simpa [Array.getD, hl] using hv
  rw [this]

theorem yielded_not (h : Inv C g β s a w) {ops : Array Oper} {j q : Nat} (hq : (ops[j]?).bind (·.dst) = some q) (hb : s.slot q = .nil) : yielded ops a.tmps j = none := by
  have hv := h.slots q
  rw [hb] at hv
  have hv : a.tmps.getD q undef = .tuple #[] := hv
  unfold yielded
  rw [hq, Option.bind_some]
  split
  · rename_i b hb
    rw [Array.getD_eq_getD_getElem?, hb] at hv
    cases hv
  · rfl

theorem gop1_runs {Γ : Gam} (hΓ : Sound P Γ) {objs : List Nat} {ops : Array Oper} (h : Sts C s a w) {s' : AS} (he : gop1 P Γ objs ops o s = some s') : StepK P ops o a w (Sts C s') := by
  obtain ⟨g, β, h⟩ := h
  unfold gop1 at he
  unfold StepK
  split at he
  · rename_i hg
    have : Region.wanted o (yielded ops a.tmps) = true := by simp [Region.wanted, hg]
    rw [if_pos this]
    exact aop_runs hΓ h he
  · rename_i j want hg
    split at he
    · rename_i q hq
      split at he
      · rename_i b hb
        have hy := yielded_of h hq hb
        have hw : Region.wanted o (yielded ops a.tmps) = (b == want) := by simp [Region.wanted, hg, hy]
        rw [hw]
        by_cases e : b = want
        · rw [if_pos e] at he
          rw [if_pos (by simp [e])]
          exact aop_runs hΓ h he
        · rw [if_neg e] at he
          rw [if_neg (by simp [e])]
          simp only [Option.some.injEq] at he
          subst he
          exact ⟨g, β, h.put o.dst rfl⟩
      · rename_i hb
        have hy := yielded_not h hq hb
        have hw : Region.wanted o (yielded ops a.tmps) = false := by simp [Region.wanted, hg, hy]
        rw [hw, if_neg (by simp)]
        simp only [Option.some.injEq] at he
        subst he
        exact ⟨g, β, h.put o.dst rfl⟩
      · cases he
    · cases he

theorem nd_some {R : Type} {x y : Option R} {r : R} (h : nd x y = some r) : x = some r ∧ y = some r := by
  unfold nd at h
  split at h
  · rename_i e; exact ⟨h, e ▸ h⟩
  · cases h

theorem nilArg_run (h : Inv C g β s a w) {x y : Operand} {n : Nat} (hn : nilArg s x y = some n) {T : TypeId} (hT : eqOp.isSl P T = true) : ∃ b, (0 < n → b = false) ∧ (Op.equal T (a.eval x) (a.eval y)).run P w = .ok b w ∧
    isAggV (a.eval x) = false ∧ a.eval x ≠ .nilIface ∧ ∀ op, binOp op T (a.eval x) (a.eval y) = (match op with | .eql => do pure (.bool (← Op.equal T (a.eval x) (a.eval y))) | .neq => do pure (.bool (!(← Op.equal T (a.eval x) (a.eval y)))) | _ => binOp op T (a.eval x) (a.eval y)) := by
  have hx := h.ev x
  have hy := h.ev y
  unfold eqOp.isSl at hT
  split at hT <;> try (cases hT; done)
  rename_i e hU
  unfold nilArg at hn
  split at hn
  · rename_i t l h1 h2
    rw [h1] at hx; rw [h2] at hy
    obtain ⟨ad, cap, vs, hv, _, hs, _⟩ := slice_of hx
    have hv2 := nils_of hy
    rw [hv, hv2]
    refine ⟨ad.isNone, fun hp => ?_, ?_, rfl, by simp, fun op => by cases op <;> rfl⟩
    · obtain rfl := Option.some.inj hn
      obtain ⟨ad', rfl⟩ := Option.isSome_iff_exists.1 (hs hp)
      rfl
    · cases ad with
      | none => exact equal_run fun d => by simp [Op.equalIn, run_underlying hU]
      | some ad => exact equal_run fun d => by simp [Op.equalIn, run_underlying hU]
  · rename_i t l h1 h2
    rw [h1] at hx; rw [h2] at hy
    obtain ⟨ad, cap, vs, hv, _, hs, _⟩ := slice_of hy
    have hv2 := nils_of hx
    rw [hv, hv2]
    refine ⟨ad.isNone, fun hp => ?_, ?_, rfl, by simp, fun op => by cases op <;> rfl⟩
    · obtain rfl := Option.some.inj hn
      obtain ⟨ad', rfl⟩ := Option.isSome_iff_exists.1 (hs hp)
      rfl
    · exact equal_run fun d => by simp [Op.equalIn, run_underlying hU]
  · cases hn

theorem nilTest_runs (h : Inv C g β s a w) {x y : Operand} {n : Nat} {T U : TypeId} (hn : nilArg s x y = some n) (hT : eqOp.isSl P T = true) :
    (o.op = .binOp .eql T x y U → ∃ b, (0 < n → b = false) ∧ Runs P o a w (Sts C (s.put o.dst (.d .bool b)))) ∧ (o.op = .binOp .neq T x y U → ∃ b, (0 < n → b = true) ∧ Runs P o a w (Sts C (s.put o.dst (.d .bool b)))) := by
  obtain ⟨b, h1, h2, h3, h4, h5⟩ := nilArg_run (w := w) h hn hT
  have hg : ∀ op, (eqGuard op T x y (a.eval x) (a.eval y)).run P w = .ok () w := fun op => eqGuard_plain h4 h3
  refine ⟨fun ho => ⟨b, h1, h.value (VS_bool b) ?_⟩, fun ho => ⟨!b, fun hp => by rw [h1 hp]; rfl, h.value (VS_bool (!b)) ?_⟩⟩
  · have h6 : (binOp .eql T (a.eval x) (a.eval y)).run P w = .ok (.bool b) w := by rw [h5 .eql]; simp [h2]
    simp [execOp, ho, hg, h6]
  · have h6 : (binOp .neq T (a.eval x) (a.eval y)).run P w = .ok (.bool (!b)) w := by rw [h5 .neq]; simp [h2]
    simp [execOp, ho, hg, h6]

theorem sel_some {R : Type} {c : Bool} {x y : Option R} {r : R} (h : sel c x y = some r) : (c = true ∧ x = some r) ∨ (c = false ∧ y = some r) := by
  cases c
  · exact .inr ⟨rfl, h⟩
  · exact .inl ⟨rfl, h⟩

theorem gopN_runs {Γ : Gam} (hΓ : Sound P Γ) {objs : List Nat} {ops : Array Oper} {R : Type} {k : AS → Option R} {r : R} (h : Sts C s a w) (he : gopN P Γ objs ops o s k = some r) :
    StepK P ops o a w fun a' w' => ∃ s', Sts C s' a' w' ∧ k s' = some r := by
  have plain : gop P Γ objs ops o s k = some r → StepK P ops o a w fun a' w' => ∃ s', Sts C s' a' w' ∧ k s' = some r := fun he => by
    obtain ⟨s1, h1, h2⟩ := gop_some he
    exact (gop1_runs hΓ h h1).mono fun a' w' hs => ⟨s1, hs, h2⟩
  have step : ∀ (hg : o.guard = none) (b : Bool), Runs P o a w (Sts C (s.put o.dst (.d .bool b))) → k (s.put o.dst (.d .bool b)) = some r → StepK P ops o a w fun a' w' => ∃ s', Sts C s' a' w' ∧ k s' = some r := fun hg b hr hk => by
    unfold StepK
    have : Region.wanted o (yielded ops a.tmps) = true := by simp [Region.wanted, hg]
    rw [if_pos this]
    exact hr.mono fun a' w' hs => ⟨_, hs, hk⟩
  unfold gopN at he
  split at he
  · rename_i T x y U hg ho
    split at he
    · rename_i n hn hT
      obtain ⟨g, β, hi⟩ := h
      obtain ⟨b, hb, hr⟩ := (nilTest_runs (o := o) (U := U) hi hn hT).1 ho
      refine step hg b hr ?_
      rcases sel_some he with ⟨hc, hk⟩ | ⟨_, hk⟩
      · rw [hb (by simpa using hc)]; exact hk
      · obtain ⟨k1, k2⟩ := nd_some hk
        cases b
        · exact k2
        · exact k1
    · exact plain he
  · rename_i T x y U hg ho
    split at he
    · rename_i n hn hT
      obtain ⟨g, β, hi⟩ := h
      obtain ⟨b, hb, hr⟩ := (nilTest_runs (o := o) (U := U) hi hn hT).2 ho
      refine step hg b hr ?_
      rcases sel_some he with ⟨hc, hk⟩ | ⟨_, hk⟩
      · rw [hb (by simpa using hc)]; exact hk
      · obtain ⟨k1, k2⟩ := nd_some hk
        cases b
        · exact k2
        · exact k1
    · exact plain he
  · exact plain he

/-- A region in the order of its text. -/
theorem gops_wpList {Γ : Gam} (hΓ : Sound P Γ) {objs : List Nat} {ops : Array Oper} {R : Type} {Q : Exit → Act → World → Prop} : ∀ (l : List Oper) {s : AS} {a : Act} {w : World} {k : AS → Option R} {r : R}, Sts C s a w → gops P Γ objs ops l s k = some r →
    (∀ s' a' w', Sts C s' a' w' → k s' = some r → Q .normal a' w') → wpList P ops Q l a w
  | [], s, a, w, k, r, h, he, hk => hk s a w h he
  | o :: l, s, a, w, k, r, h, he, hk => by
    have he : gopN P Γ objs ops o s (fun s' => s'.seen fun s' => gops P Γ objs ops l s' k) = some r := he
    simp only [AS.seen_eq] at he
    exact ((gopN_runs hΓ h he).mono fun a' w' ⟨s', hs, h2⟩ => gops_wpList hΓ l hs h2 hk).wpList

end
end Go.Ab
/-
  Drawn regions, first part: states that agree, what an operation does to a state.
-/
namespace Go.Ab

theorem AS.ext_of {s t : AS} (h1 : s.slots = t.slots) (h2 : s.news.length = t.news.length) (h3 : ∀ id, s.ent id = t.ent id) : s = t := by
  obtain ⟨a, b, c⟩ := s
  obtain ⟨a', b', c'⟩ := t
  simp only at h1 h2
  subst h1
  have hb : b = b' := List.ext_getElem? fun k => h3 (.old k)
  subst hb
  have hc : c = c' := by
    apply List.ext_getElem h2
    intro i h h'
    apply List.ext_getElem?
    intro j
    have := h3 (.new i j)
    simpa [AS.ent, List.getD_eq_getElem?_getD, h, h'] using this
  rw [hc]

/-! ### Entries that are the same but for the mark -/

def Ent.sim : Ent → Ent → Prop
  | .obj v _ c, .obj v' _ c' => v = v' ∧ c = c'
  | .dead, .dead => True
  | _, _ => False

def simO : Option Ent → Option Ent → Prop
  | some a, some b => a.sim b
  | none, none => True
  | _, _ => False

def Ent.frz : Ent → Ent
  | .obj v _ c => .obj v true c
  | .dead => .dead

theorem Ent.sim_refl (a : Ent) : a.sim a := by cases a <;> simp [Ent.sim]
theorem simO_refl (a : Option Ent) : simO a a := by cases a <;> simp [simO, Ent.sim_refl]
theorem simO_of {a b : Option Ent} (h : a = b) : simO a b := h ▸ simO_refl a
theorem Ent.sim_frz (a : Ent) : a.sim a.frz := by cases a <;> simp [Ent.sim, Ent.frz]
theorem simO_frz (a : Option Ent) : simO a (a.map Ent.frz) := by cases a <;> simp [simO, Ent.sim_frz]
theorem simO_frz' (a : Option Ent) : simO (a.map Ent.frz) a := by
  cases a with
  | none => trivial
  | some x => cases x <;> simp [simO, Ent.sim, Ent.frz]
theorem Ent.frz_frz (a : Ent) : a.frz.frz = a.frz := by cases a <;> rfl

structure Agree (f : Foot) (s t : AS) : Prop where
  slots : ∀ i ∈ f.slots, t.slot i = s.slot i
  ws : ∀ id ∈ f.ws, t.ent id = s.ent id
  rs : ∀ id ∈ f.rs, simO (t.ent id) (s.ent id)
  virgin : ∀ q, f.dst = some q → t.virgin q = s.virgin q

structure Eff where
  v : AVal
  up : Id → Option Ent
  fz : List Id

structure App (d : Option Tmp) (E : Eff) (s s' : AS) : Prop where
  slots : s'.slots = (s.put d E.v).slots
  len : s'.news.length = s.news.length
  ent : ∀ id, s'.ent id = match E.up id with | some e => some e | none => if id ∈ E.fz then (s.ent id).map Ent.frz else s.ent id

theorem App.det {d : Option Tmp} {E : Eff} {s s1 s2 : AS} (h1 : App d E s s1) (h2 : App d E s s2) : s1 = s2 :=
  AS.ext_of (by rw [h1.slots, h2.slots]) (by rw [h1.len, h2.len]) fun id => by rw [h1.ent, h2.ent]

structure Within (f : Foot) (s : AS) (E : Eff) : Prop where
  up : ∀ id e, E.up id = some e → (id ∈ f.ws ∧ s.ent id ≠ none) ∨ ∃ q j, f.dst = some q ∧ id = .new q j
  fz : ∀ id ∈ E.fz, id ∈ f.rs

/-! ### Freezing, by places -/

theorem len_setEnt (s : AS) (id : Id) (e : Ent) : (s.setEnt id e).news.length = s.news.length := by cases id <;> simp [AS.setEnt]

theorem ent_freeze_eq (s : AS) (id i : Id) : (s.freeze id).ent i = if i = id then (s.ent i).map Ent.frz else s.ent i := by
  unfold AS.freeze
  cases hs : s.ent id with
  | none => by_cases hi : i = id
            · subst hi; simp [hs]
            · simp [hi]
  | some e =>
    cases e with
    | dead => by_cases hi : i = id
              · subst hi; simp [hs, Ent.frz]
              · simp [hi]
    | obj v fr c =>
      simp only
      by_cases hi : i = id
      · subst hi
        rw [ent_setEnt_self s i _ (by rw [hs]; simp)]
        simp [hs, Ent.frz]
      · rw [ent_setEnt_other s id i _ hi]; simp [hi]

theorem ent_freezeAll_eq (i : Id) : ∀ (ids : List Id) (s : AS), (s.freezeAll ids).ent i = if i ∈ ids then (s.ent i).map Ent.frz else s.ent i
  | [], s => by simp [AS.freezeAll]
  | id :: ids, s => by
    rw [AS.freezeAll, ent_freezeAll_eq i ids, ent_freeze_eq]
    by_cases h1 : i = id
    · subst h1
      by_cases h2 : i ∈ ids
      · simp [h2, Option.map_map, Function.comp_def, Ent.frz_frz]
      · simp [h2]
    · simp [h1]

theorem len_freeze (s : AS) (id : Id) : (s.freeze id).news.length = s.news.length := by
  unfold AS.freeze
  split
  · exact len_setEnt _ _ _
  · rfl
theorem len_freezeAll : ∀ (ids : List Id) (s : AS), (s.freezeAll ids).news.length = s.news.length
  | [], _ => rfl
  | id :: ids, s => by rw [AS.freezeAll, len_freezeAll ids, len_freeze]

theorem virgin_iff {s : AS} {q : Nat} : s.virgin q = true ↔ q < s.news.length ∧ ∀ j, s.ent (.new q j) = none := by
  refine ⟨fun h => ⟨(virgin_ent h).2, (virgin_ent h).1⟩, fun ⟨h1, h2⟩ => ?_⟩
  unfold AS.virgin
  rw [List.getElem?_eq_getElem h1]
  have h0 := h2 0
  simp only [AS.ent, List.getD_eq_getElem?_getD, List.getElem?_eq_getElem h1, Option.getD_some] at h0
  cases hh : s.news[q] with
  | nil => rfl
  | cons x xs => rw [hh] at h0; simp at h0

theorem App.freezePut (d : Option Tmp) (v : AVal) (ids : List Id) (s : AS) : App d ⟨v, fun _ => none, ids⟩ s ((s.freezeAll ids).put d v) := by
  refine ⟨?_, ?_, fun id => ?_⟩
  · cases d <;> simp [AS.put, slots_freezeAll]
  · cases d <;> simp [AS.put, len_freezeAll]
  · rw [ent_put, ent_freezeAll_eq]

theorem App.justPut (d : Option Tmp) (v : AVal) (s : AS) : App d ⟨v, fun _ => none, []⟩ s (s.put d v) := App.freezePut d v [] s

def bornUp (q : Nat) (es : List Ent) : Id → Option Ent
  | .new i j => if i = q then es[j]? else none
  | .old _ => none

theorem ent_born (s : AS) {q : Nat} (hq : q < s.news.length) (es : List Ent) (id : Id) : (s.born q es).ent id = match id with | .new i j => if i = q then es[j]? else s.ent (.new i j) | .old k => s.ent (.old k) := by
  cases id with
  | old k => rfl
  | new i j =>
    simp only
    by_cases h : i = q
    · subst h; rw [if_pos rfl]; exact ent_born_new hq _ j
    · rw [if_neg h]; exact ent_born_other _ fun j' e => by simp only [Id.new.injEq] at e; exact h e.1

theorem App.bornPut {s : AS} {q : Nat} (hv : s.virgin q = true) (v : AVal) (ids : List Id) (es : List Ent) : App (some q) ⟨v, bornUp q es, ids⟩ s (((s.freezeAll ids).born q es).put (some q) v) := by
  obtain ⟨h1, h2⟩ := virgin_iff.1 hv
  refine ⟨?_, ?_, fun id => ?_⟩
  · simp [AS.put, slots_freezeAll]
  · simp [AS.put, AS.born, len_freezeAll]
  · rw [ent_put, ent_born _ (by rw [len_freezeAll]; exact h1)]
    cases id with
    | old k => simp only [bornUp]; exact ent_freezeAll_eq _ _ _
    | new i j =>
      simp only [bornUp]
      by_cases h : i = q
      · subst h
        rw [if_pos rfl]
        cases he : es[j]? with
        | none => simp [h2]
        | some e => simp
      · rw [if_neg h]
        simp only [if_neg h]
        exact ent_freezeAll_eq _ _ _

theorem App.setPut {s : AS} {id : Id} {e0 : Ent} (hs : s.ent id = some e0) (d : Option Tmp) (v : AVal) (e : Ent) : App d ⟨v, fun i => if i = id then some e else none, []⟩ s ((s.setEnt id e).put d v) := by
  refine ⟨?_, ?_, fun i => ?_⟩
  · cases d <;> simp [AS.put]
  · cases d <;> simp [AS.put, len_setEnt]
  · rw [ent_put]
    by_cases hi : i = id
    · subst hi
      rw [ent_setEnt_self s i _ (by rw [hs]; simp)]
      simp
    · rw [ent_setEnt_other s id i _ hi]; simp [hi]

/-! ### What hangs on what -/

section
variable {P : Program} {Γ : Gam} {objs : List Nat} {ops : Array Oper} {o : Oper} {s t : AS}

def LocA (P : Program) (Γ : Gam) (objs : List Nat) (ops : Array Oper) (o : Oper) (s s' : AS) : Prop :=
  ∃ E, App o.dst E s s' ∧ Within (foot Γ ops s o) s E ∧ ∀ t, Agree (foot Γ ops s o) s t → ∃ t', (aop P Γ objs o t).eval = some t' ∧ App o.dst E t t'

theorem mem_opSlots {xs : Array Operand} {i : Nat} (h : Operand.tmp i ∈ xs.toList) : i ∈ opSlots xs := by
  unfold opSlots
  exact List.mem_filterMap.2 ⟨_, h, rfl⟩

theorem Agree.ev (h : Agree (foot Γ ops s o) s t) {x : Operand} (hx : x ∈ o.op.operands.toList) : t.ev x = s.ev x := by
  cases x with
  | tmp i => exact h.slots i (List.mem_append.2 (.inl (mem_opSlots hx)))
  | _ => rfl

theorem ofConst_ids (v : Value) : (ofConst v).ids = [] := by unfold ofConst; split <;> rfl

theorem ids_in {x : Operand} (hx : x ∈ o.op.operands.toList) {id : Id} (hid : id ∈ (s.ev x).ids) : id ∈ (foot Γ ops s o).rs := by
  refine List.mem_append.2 (.inl ?_)
  unfold opIds
  cases x with
  | tmp i => exact List.mem_flatMap.2 ⟨i, mem_opSlots hx, hid⟩
  | const v => simp [AS.ev, ofConst_ids] at hid
  | global _ => simp [AS.ev, AVal.ids] at hid
  | func f => simp [AS.ev, AVal.ids] at hid

theorem Agree.sim (h : Agree (foot Γ ops s o) s t) {x : Operand} (hx : x ∈ o.op.operands.toList) {id : Id} (hid : id ∈ (s.ev x).ids) : simO (t.ent id) (s.ent id) :=
  h.rs id (ids_in hx hid)

theorem sim_obj {id : Id} (h : simO (t.ent id) (s.ent id)) : (t.obj id = none ∧ s.obj id = none) ∨ ∃ v f f' c, t.obj id = some (v, f, c) ∧ s.obj id = some (v, f', c) := by
  unfold AS.obj
  revert h
  cases t.ent id with
  | none => cases s.ent id with
    | none => intro _; simp
    | some b => intro h; exact h.elim
  | some a => cases s.ent id with
    | none => intro h; exact h.elim
    | some b => cases a <;> cases b <;> intro h <;> first
        | exact h.elim
        | (left; exact ⟨rfl, rfl⟩)
        | (obtain ⟨rfl, rfl⟩ := h; right; exact ⟨_, _, _, _, rfl, rfl⟩)

theorem row_congr {id : Id} (h : simO (t.ent id) (s.ent id)) (ver : Nat) (p : List Stp) : t.row id ver p = s.row id ver p := by
  unfold AS.row
  rcases sim_obj h with ⟨h1, h2⟩ | ⟨v, f, f', c, h1, h2⟩ <;> rw [h1, h2]

theorem toTy_congr : ∀ (v : AVal) (ty : Ty), (∀ id ∈ v.ids, simO (t.ent id) (s.ent id)) → t.toTy ty v = s.toTy ty v
  | .sref id ver p c i len, ty, h => by
    cases ty <;> first
      | rfl
      | (simp only [AS.toTy]; rw [row_congr (h id (by simp [AVal.ids]))])
  | .pr a b, ty, h => by
    cases ty <;> first
      | rfl
      | (simp only [AS.toTy]; rw [toTy_congr a _ fun id hid => h id (by simp [AVal.ids, hid]), toTy_congr b _ fun id hid => h id (by simp [AVal.ids, hid])])
  | .undef, ty, _ | .gone, ty, _ | .nils, ty, _ | .nilp, ty, _ | .nilf, ty, _ | .nilm, ty, _ | .d _ _, ty, _ | .ptr .., ty, _ | .rptr .., ty, _ | .fn .., ty, _ | .cons .., ty, _ | .nil, ty, _ | .vec .., ty, _ | .bx .., ty, _ | .sb _, ty, _ => by
    cases ty <;> simp only [AS.toTy]

theorem shared_ids : ∀ (v : AVal), ∀ id ∈ v.shared, id ∈ v.ids
  | .sref .., id, h => by simpa [AVal.shared, AVal.ids] using h
  | .pr a b, id, h => by
    simp only [AVal.shared, List.mem_append, AVal.ids] at h ⊢
    rcases h with h | h
    · exact .inl (shared_ids a id h)
    · exact .inr (shared_ids b id h)
  | .undef, _, h | .gone, _, h | .nils, _, h | .nilp, _, h | .nilf, _, h | .nilm, _, h | .d _ _, _, h | .ptr .., _, h | .rptr .., _, h | .fn .., _, h | .cons .., _, h | .nil, _, h | .vec .., _, h | .bx .., _, h | .sb _, _, h => by
    simp [AVal.shared] at h

theorem loadA_congr {T : TypeId} {x : AVal} (h : ∀ id ∈ x.ids, simO (t.ent id) (s.ent id)) : loadA P t T x = loadA P s T x := by
  unfold loadA
  split
  · rename_i id ver p n
    rcases sim_obj (h id (by simp [AVal.ids])) with ⟨h1, h2⟩ | ⟨v, f, f', c, h1, h2⟩ <;> rw [h1, h2]
  · rfl
  · rfl

theorem bounds_congr {n : Nat} {lo hi : Option Operand} (hl : ∀ x, lo = some x → t.ev x = s.ev x) (hh : ∀ x, hi = some x → t.ev x = s.ev x) : bounds t n lo hi = bounds s n lo hi := by
  unfold bounds
  cases lo <;> cases hi <;> simp only [] <;> first
    | rfl
    | (rw [hl _ rfl, hh _ rfl])
    | rw [hl _ rfl]
    | rw [hh _ rfl]

theorem sliceA_congr {T : TypeId} {x : AVal} {lo hi : Option Operand} (h : ∀ id ∈ x.ids, simO (t.ent id) (s.ent id)) (hl : ∀ x, lo = some x → t.ev x = s.ev x) (hh : ∀ x, hi = some x → t.ev x = s.ev x) :
    sliceA P t T x lo hi = sliceA P s T x lo hi := by
  have hb : ∀ n, bounds t n lo hi = bounds s n lo hi := fun n => bounds_congr hl hh
  unfold sliceA
  split <;> first
    | rfl
    | (rw [row_congr (h _ (by simp [AVal.ids]))]; simp only [hb]; done)
    | (simp only [hb]; done)

theorem indexAddrA_congr {T : TypeId} {x : AVal} {i : Int} (h : ∀ id ∈ x.ids, simO (t.ent id) (s.ent id)) : indexAddrA P t T x i = indexAddrA P s T x i := by
  unfold indexAddrA
  split <;> first
    | rfl
    | rw [row_congr (h _ (by simp [AVal.ids]))]

theorem convA_congr {obj : Bool} {src dst : TypeId} {x : AVal} (h : ∀ id ∈ x.ids, simO (t.ent id) (s.ent id)) : convA P t obj src dst x = convA P s obj src dst x := by
  unfold convA
  split
  · rfl
  · unfold convB
    split <;> first
      | rfl
      | (simp only [AS.peek, toTy_congr _ _ h])

theorem eqP_congr {T : TypeId} {op : BinOp} {i : Id} {v : Nat} {j : Id} {w : Nat} (h : simO (t.ent i) (s.ent i)) : eqP P t T op i v j w = eqP P s T op i v j w := by
  unfold eqP
  rcases sim_obj h with ⟨h1, h2⟩ | ⟨v, f, f', c, h1, h2⟩ <;> rw [h1, h2]

theorem convP_congr {src dst : TypeId} {id : Id} {ver : Nat} (h : simO (t.ent id) (s.ent id)) : convP P t src dst id ver = convP P s src dst id ver := by
  unfold convP
  rcases sim_obj h with ⟨h1, h2⟩ | ⟨v, f, f', c, h1, h2⟩
  · rw [h1, h2]
  · rw [h1, h2]
    cases c <;> rfl

theorem setParts_congr {ty : Ty} : ∀ (ps : List (Nat × Operand)) (l : List ty.den), (∀ x ∈ ps, t.ev x.2 = s.ev x.2 ∧ ∀ id ∈ (s.ev x.2).ids, simO (t.ent id) (s.ent id)) → setParts ty t ps l = setParts ty s ps l
  | [], _, _ => rfl
  | (i, x) :: ps, l, h => by
    obtain ⟨h1, h2⟩ := h (i, x) (List.mem_cons_self ..)
    simp only [setParts]
    simp only at h1 h2
    rw [h1, toTy_congr _ _ h2]
    congr 2
    funext y
    rw [setParts_congr ps _ fun z hz => h z (List.mem_cons_of_mem _ hz)]

theorem setParts_shared {ty : Ty} : ∀ (ps : List (Nat × Operand)) (l : List ty.den) (r : List ty.den × List Id), (setParts ty s ps l).eval = some r → ∀ id ∈ r.2, ∃ x ∈ ps, id ∈ (s.ev x.2).ids
  | [], l, r, h, id, hid => by
    obtain rfl := eval_ok.1 h
    cases hid
  | (i, x) :: ps, l, r, h, id, hid => by
    simp only [setParts] at h
    obtain ⟨h1, h2⟩ := eval_guard.1 h
    obtain ⟨y, h3, h4⟩ := eval_bind.1 h2
    obtain ⟨r', h5, h6⟩ := eval_bind.1 h4
    obtain rfl := eval_ok.1 h6
    rcases List.mem_append.1 hid with hid | hid
    · exact ⟨(i, x), List.mem_cons_self .., shared_ids _ _ hid⟩
    · obtain ⟨z, hz, hz2⟩ := setParts_shared ps _ r' h5 id hid
      exact ⟨z, List.mem_cons_of_mem _ hz, hz2⟩

theorem setFields_congr {fs : Array Field} : ∀ (ps : List (Nat × Operand)) (v : AVal), (∀ x ∈ ps, t.ev x.2 = s.ev x.2) → setFields P fs t ps v = setFields P fs s ps v
  | [], _, _ => rfl
  | (i, x) :: ps, v, h => by
    have h1 := h (i, x) (List.mem_cons_self ..)
    simp only at h1
    simp only [setFields, h1]
    have ih : ∀ v, setFields P fs t ps v = setFields P fs s ps v := fun v => setFields_congr ps v fun z hz => h z (List.mem_cons_of_mem _ hz)
    simp only [ih]

theorem capsOf_congr : ∀ (l : List Operand), (∀ x ∈ l, t.ev x = s.ev x) → capsOf t l = capsOf s l
  | [], _ => rfl
  | x :: l, h => by
    simp only [capsOf]
    rw [h x (List.mem_cons_self ..), capsOf_congr l fun y hy => h y (List.mem_cons_of_mem _ hy)]

theorem moreA_congr {ty : Ty} {X : TypeId} {x : AVal} (h : ∀ id ∈ x.ids, simO (t.ent id) (s.ent id)) : moreA P t ty X x = moreA P s ty X x := by
  unfold moreA
  split
  · rfl
  · simp only [AS.peek, toTy_congr _ _ h]

/-! ### Operations of the plain kind -/

theorem loc_put {v : AVal} (h : ∀ t, Agree (foot Γ ops s o) s t → (aop P Γ objs o t).eval = some (t.put o.dst v)) : LocA P Γ objs ops o s (s.put o.dst v) :=
  ⟨⟨v, fun _ => none, []⟩, App.justPut _ _ _, ⟨fun _ _ h => by simp at h, fun _ h => by simp at h⟩, fun t ht => ⟨_, h t ht, App.justPut _ _ _⟩⟩

theorem loc_out {F : AS → Out AVal} (ho : ∀ t, aop P Γ objs o t = (F t).bind fun v => .ok (t.put o.dst v)) (hF : ∀ t, Agree (foot Γ ops s o) s t → F t = F s) {s' : AS} (he : (aop P Γ objs o s).eval = some s') : LocA P Γ objs ops o s s' := by
  rw [ho] at he
  obtain ⟨v, h1, h2⟩ := eval_bind.1 he
  obtain rfl := eval_ok.1 h2
  refine loc_put fun t ht => ?_
  rw [ho, hF t ht, eval_bind]
  exact ⟨v, h1, rfl⟩

/-- What is frozen. -/
theorem loc_frz {v : AVal} {ids : List Id} (hi : ∀ id ∈ ids, id ∈ (foot Γ ops s o).rs) (h : ∀ t, Agree (foot Γ ops s o) s t → (aop P Γ objs o t).eval = some ((t.freezeAll ids).put o.dst v)) : LocA P Γ objs ops o s ((s.freezeAll ids).put o.dst v) :=
  ⟨⟨v, fun _ => none, ids⟩, App.freezePut _ _ _ _, ⟨fun _ _ h => by simp at h, hi⟩, fun t ht => ⟨_, h t ht, App.freezePut _ _ _ _⟩⟩

/-- What is new. -/
theorem loc_born {v : AVal} {ids : List Id} {q : Nat} {es : List Ent} (hd : o.dst = some q) (hv : s.virgin q = true) (hi : ∀ id ∈ ids, id ∈ (foot Γ ops s o).rs)
    (h : ∀ t, Agree (foot Γ ops s o) s t → t.virgin q = true → (aop P Γ objs o t).eval = some (((t.freezeAll ids).born q es).put o.dst v)) : LocA P Γ objs ops o s (((s.freezeAll ids).born q es).put o.dst v) := by
  refine ⟨⟨v, bornUp q es, ids⟩, by rw [hd]; exact App.bornPut hv _ _ _, ⟨fun id e h => .inr ?_, hi⟩, fun t ht => ?_⟩
  · cases id with
    | old _ => simp [bornUp] at h
    | new i j =>
      simp only [bornUp] at h
      split at h
      · rename_i hq; exact ⟨q, j, hd, by rw [hq]⟩
      · cases h
  · have hv' : t.virgin q = true := by rw [ht.virgin q hd]; exact hv
    exact ⟨_, h t ht hv', by rw [hd]; exact App.bornPut hv' _ _ _⟩

/-- What is changed. -/
theorem loc_set {v : AVal} {id : Id} {e0 e : Ent} (hs : s.ent id = some e0) (hw : id ∈ (foot Γ ops s o).ws) (h : ∀ t, Agree (foot Γ ops s o) s t → t.ent id = s.ent id → (aop P Γ objs o t).eval = some ((t.setEnt id e).put o.dst v)) :
    LocA P Γ objs ops o s ((s.setEnt id e).put o.dst v) := by
  refine ⟨⟨v, fun i => if i = id then some e else none, []⟩, App.setPut hs _ _ _, ⟨fun i e' h => .inl ?_, fun _ h => by simp at h⟩, fun t ht => ?_⟩
  · simp only at h
    split at h
    · rename_i hi; subst hi; exact ⟨hw, by rw [hs]; simp⟩
    · cases h
  · have := ht.ws id hw
    exact ⟨_, h t ht this, App.setPut (this.trans hs) _ _ _⟩

end
end Go.Ab

/-
  Drawn regions, second part: every operation hangs on its footprint alone.
-/
namespace Go.Ab

section
variable {P : Program} {Γ : Gam} {objs : List Nat} {ops : Array Oper} {o : Oper} {s t : AS}

/-! ### Stores, appends -/

theorem storeA_local {T : TypeId} {x v : AVal} {s' : AS} (h : (storeA P s T x v).eval = some s') :
    ∃ id e0 e, x.ids = [id] ∧ s.ent id = some e0 ∧ s' = s.setEnt id e ∧ ∀ t : AS, t.ent id = s.ent id → (storeA P t T x v).eval = some (t.setEnt id e) := by
  unfold storeA at h
  split at h
  · rename_i id ver p n
    cases hob : s.obj id with
    | none => rw [hob] at h; simp only [eval_fail] at h
    | some r =>
      obtain ⟨ve, fr, c⟩ := r
      rw [hob] at h
      obtain ⟨h1, h2⟩ := eval_guard.1 h
      obtain ⟨r, h3, h4⟩ := eval_bind.1 h2
      obtain ⟨h5, h6⟩ := eval_guard.1 h4
      obtain ⟨h7, h8⟩ := eval_chk.1 h6
      obtain ⟨c', h9, h10⟩ := eval_bind.1 h8
      obtain rfl := eval_ok.1 h10
      refine ⟨id, _, _, rfl, obj_some hob, rfl, fun t ht => ?_⟩
      have hob' : t.obj id = some (ve, fr, c) := by simp only [AS.obj, ht]; exact hob
      unfold storeA
      simp only [hob']
      exact eval_guard.2 ⟨h1, eval_bind.2 ⟨r, h3, eval_guard.2 ⟨h5, eval_chk.2 ⟨h7, eval_bind.2 ⟨c', h9, eval_ok.2 rfl⟩⟩⟩⟩⟩
  · simp only [eval_fail] at h

theorem append_local {c : Call} {x y : Operand} {T X : TypeId} (hop : o.op = .call c) (hc : c.callee = .builtin .append) (ha : c.args.toList = [x, y]) (ht : c.argTypes.toList = [T, X]) (hne : ∀ k n, s.ev x = .nils → s.ev y = .d (.int k) n → False) {s' : AS}
    (he : (appendA P s o.dst T X (s.ev x) (s.ev y)).eval = some s') : LocA P Γ objs ops o s s' := by
  have hao : ∀ t : AS, t.ev x = s.ev x → t.ev y = s.ev y → aop P Γ objs o t = appendA P t o.dst T X (t.ev x) (t.ev y) := fun t e1 e2 => by
    unfold aop
    rw [hop]
    simp only [hc, ha, ht]
    split
    · rename_i k n hx hy
      rw [e1] at hx
      rw [e2] at hy
      exact (hne k n hx hy).elim
    · rfl
  have hmem : ∀ z, z = x ∨ z = y → z ∈ o.op.operands.toList := fun z hz => by
    rw [hop]
    simp only [Op.operands, Call.operands, hc, List.nil_append, Array.toList_append, ha]
    simpa using hz
  have hx : ∀ t, Agree (foot Γ ops s o) s t → t.ev x = s.ev x := fun t h => h.ev (hmem x (.inl rfl))
  have hy : ∀ t, Agree (foot Γ ops s o) s t → t.ev y = s.ev y := fun t h => h.ev (hmem y (.inr rfl))
  have hm : ∀ t, Agree (foot Γ ops s o) s t → ∀ ty, moreA P t ty X (s.ev y) = moreA P s ty X (s.ev y) := fun t h ty => moreA_congr fun id hid => h.sim (hmem y (.inr rfl)) hid
  unfold appendA at he
  split at he
  · rename_i e ty b q hel hd
    obtain ⟨m, h1, h2⟩ := eval_bind.1 he
    split at h2
    · rename_i hnx
      obtain ⟨h3, h4⟩ := eval_guard.1 h2
      obtain ⟨h5, h6⟩ := eval_chk.1 h4
      obtain rfl := eval_ok.1 h6
      refine loc_born (ids := []) hd h3 (fun _ h => by cases h) fun t ht hv => ?_
      rw [hao t (hx t ht) (hy t ht), hx t ht, hy t ht]
      unfold appendA
      simp only [hel, hd, hnx]
      refine eval_bind.2 ⟨m, by rw [hm t ht]; exact h1, ?_⟩
      exact eval_guard.2 ⟨hv, eval_chk.2 ⟨h5, eval_ok.2 rfl⟩⟩
    · rename_i id ver len hnx
      split at h2
      · rename_i v fr e' t' l hob
        obtain ⟨h3, h4⟩ := eval_guard.1 h2
        obtain ⟨l', h5, h6⟩ := eval_bind.1 h4
        obtain ⟨h7, h8⟩ := eval_chk.1 h6
        obtain ⟨h9, h10⟩ := eval_chk.1 h8
        obtain ⟨h11, h12⟩ := eval_chk.1 h10
        obtain rfl := eval_ok.1 h12
        have hw : id ∈ (foot Γ ops s o).ws := by
          show id ∈ writes Γ s o
          unfold writes
          rw [hop]
          simp only [hc, ha, hnx]
          simp [AVal.ids]
        refine loc_set (obj_some hob) hw fun t ht hte => ?_
        rw [hao t (hx t ht) (hy t ht), hx t ht, hy t ht]
        have hob' : t.obj id = some (v, fr, .vec e' t' l) := by simp only [AS.obj, hte]; exact hob
        unfold appendA
        simp only [hel, hd, hnx]
        refine eval_bind.2 ⟨m, by rw [hm t ht]; exact h1, ?_⟩
        simp only [hob']
        exact eval_guard.2 ⟨h3, eval_bind.2 ⟨l', h5, eval_chk.2 ⟨h7, eval_chk.2 ⟨h9, eval_chk.2 ⟨h11, eval_ok.2 rfl⟩⟩⟩⟩⟩
      · simp only [eval_fail] at h2
    · simp only [eval_fail] at h2
  · simp only [eval_fail] at he

/-! ### Calls -/

theorem reach_sub : ∀ (n : Nat) (todo acc : List Id), ∀ id ∈ acc, id ∈ s.reach n todo acc
  | 0, _, _, id, h => h
  | _ + 1, [], _, id, h => h
  | n + 1, x :: todo, acc, id, h => by
    rw [AS.reach]
    split
    · exact reach_sub n todo acc id h
    · exact reach_sub n _ _ id (List.mem_append.2 (.inl h))

theorem reach_congr : ∀ (n : Nat) (todo acc : List Id), (∀ id ∈ s.reach n todo acc, ((t.ent id).getD .dead).ids = ((s.ent id).getD .dead).ids) → t.reach n todo acc = s.reach n todo acc
  | 0, _, _, _ => rfl
  | _ + 1, [], _, _ => rfl
  | n + 1, x :: todo, acc, h => by
    rw [AS.reach] at h
    rw [AS.reach, AS.reach]
    split
    · rename_i hc
      rw [if_pos hc] at h
      exact reach_congr n todo acc h
    · rename_i hc
      rw [if_neg hc] at h
      have hx := h x (reach_sub n _ _ x (List.mem_append.2 (.inr (List.mem_singleton.2 rfl))))
      rw [hx]
      exact reach_congr n _ _ h

theorem ids_frz (e : Option Ent) : ((e.map Ent.frz).getD .dead).ids = (e.getD .dead).ids := by
  cases e with
  | none => rfl
  | some x => cases x <;> rfl

theorem reach_freezeAll (ids : List Id) (n : Nat) (todo acc : List Id) : (s.freezeAll ids).reach n todo acc = s.reach n todo acc := by
  refine reach_congr n todo acc fun id _ => ?_
  rw [ent_freezeAll_eq]
  split
  · exact ids_frz _
  · rfl

theorem conv_congr : ∀ (ps : List (Option Ty)) (vs : List AVal), (∀ v ∈ vs, ∀ id ∈ v.ids, simO (t.ent id) (s.ent id)) → t.conv ps vs = s.conv ps vs
  | [], [], _ => rfl
  | [], _ :: _, _ => rfl
  | some _ :: _, [], _ => rfl
  | none :: _, [], _ => rfl
  | some ty :: ps, v :: vs, h => by
    simp only [AS.conv]
    rw [toTy_congr v ty (h v (List.mem_cons_self ..)), conv_congr ps vs fun x hx => h x (List.mem_cons_of_mem _ hx)]
  | none :: ps, v :: vs, h => by
    simp only [AS.conv]
    rw [conv_congr ps vs fun x hx => h x (List.mem_cons_of_mem _ hx)]

theorem conv_parts : ∀ (ps : List (Option Ty)) (vs : List AVal) (r : List AVal × List Id), (s.conv ps vs).eval = some r → r.1.flatMap AVal.ids = lendIds ps vs ∧ ∀ id ∈ r.2, ∃ v ∈ vs, id ∈ v.ids
  | [], [], r, h => by
    simp only [AS.conv, eval_ok] at h
    subst h
    exact ⟨rfl, fun _ h => by cases h⟩
  | some ty :: ps, v :: vs, r, h => by
    simp only [AS.conv] at h
    obtain ⟨x, h1, h2⟩ := eval_bind.1 h
    obtain ⟨r', h3, h4⟩ := eval_bind.1 h2
    obtain rfl := eval_ok.1 h4
    obtain ⟨i1, i2⟩ := conv_parts ps vs r' h3
    refine ⟨by simp [lendIds, i1, AVal.ids], fun id hid => ?_⟩
    rcases List.mem_append.1 hid with hid | hid
    · exact ⟨v, List.mem_cons_self .., shared_ids v id hid⟩
    · obtain ⟨u, hu, hu2⟩ := i2 id hid
      exact ⟨u, List.mem_cons_of_mem _ hu, hu2⟩
  | none :: ps, v :: vs, r, h => by
    simp only [AS.conv] at h
    obtain ⟨r', h3, h4⟩ := eval_bind.1 h
    obtain rfl := eval_ok.1 h4
    obtain ⟨i1, i2⟩ := conv_parts ps vs r' h3
    refine ⟨by simp [lendIds, i1], fun id hid => ?_⟩
    obtain ⟨u, hu, hu2⟩ := i2 id hid
    exact ⟨u, List.mem_cons_of_mem _ hu, hu2⟩
  | [], _ :: _, _, h => by simp only [AS.conv, eval_fail] at h
  | some _ :: _, [], _, h => by simp only [AS.conv, eval_fail] at h
  | none :: _, [], _, h => by simp only [AS.conv, eval_fail] at h

theorem list_ids : ∀ (c : AVal), ∀ v ∈ c.list, ∀ id ∈ v.ids, id ∈ c.ids
  | .cons a b, v, hv, id, hid => by
    simp only [AVal.list, List.mem_cons] at hv
    simp only [AVal.ids, List.mem_append]
    rcases hv with rfl | hv
    · exact .inl hid
    · exact .inr (list_ids b v hv id hid)
  | .sb _, _, h, _, _ | .undef, _, h, _, _ | .gone, _, h, _, _ | .nils, _, h, _, _ | .nilp, _, h, _, _ | .nilf, _, h, _, _ | .nilm, _, h, _, _ | .d _ _, _, h, _, _ | .ptr .., _, h, _, _ | .rptr .., _, h, _, _
  | .fn .., _, h, _, _ | .pr .., _, h, _, _ | .nil, _, h, _, _ | .vec .., _, h, _, _ | .bx .., _, h, _, _ | .sref .., _, h, _, _ => by simp [AVal.list] at h

theorem refIn_congr {ids : List Id} (h : ∀ id ∈ ids, t.ent id = s.ent id) : t.refIn ids = s.refIn ids := by
  funext id ver
  unfold AS.refIn
  cases hi : idxOf id ids with
  | none => rfl
  | some k =>
    have : t.obj id = s.obj id := by simp only [AS.obj, h id (List.mem_of_getElem? (idxOf_some hi))]
    rw [this]

theorem verOf_congr {id : Id} (h : t.ent id = s.ent id) : t.verOf id = s.verOf id := by simp only [AS.verOf, AS.obj, h]

theorem refOut_congr {ids : List Id} (h : ∀ id ∈ ids, t.ent id = s.ent id) (q : Nat) : t.refOut ids q = s.refOut ids q := by
  funext id ver
  cases id with
  | new i j => rfl
  | old k =>
    simp only [AS.refOut]
    cases hk : ids[k]? with
    | none => rfl
    | some id => simp only [verOf_congr (h id (List.mem_of_getElem? hk))]

theorem entOut_congr {ids : List Id} (h : ∀ id ∈ ids, t.ent id = s.ent id) (q b : Nat) : t.entOut ids q b = s.entOut ids q b := by
  funext e
  cases e <;> simp only [AS.entOut, refOut_congr h]

theorem entIn_congr {ids : List Id} (h : ∀ id ∈ ids, t.ent id = s.ent id) {id : Id} (hid : id ∈ ids) : t.entIn ids id = s.entIn ids id := by
  unfold AS.entIn
  rw [h id hid, refIn_congr h]

def backSt (s : AS) (ids : List Id) (d : Option Tmp) (G : GRes) : AS :=
  (AS.setEnts s ids (d.getD 0) (s.made ids (d.getD 0) G.news) ids G.olds).put d (G.val.ren (s.refOut ids (d.getD 0)))

theorem back_some {ids : List Id} {d : Option Tmp} {G : GRes} {s' : AS} : (s.back ids d G).eval = some s' ↔ (G.olds.length = ids.length ∧ (G.news = [] ∨ ∃ q, d = some q ∧ s.virgin q = true)) ∧ s' = backSt s ids d G := by
  unfold AS.back
  cases d with
  | none =>
    rw [eval_guard, eval_ok]
    simp only [Bool.and_eq_true, beq_iff_eq, List.isEmpty_iff, backSt, AS.put, Option.getD_none]
    constructor
    · rintro ⟨⟨h1, h2⟩, rfl⟩
      rw [h2]; exact ⟨⟨h1, .inl rfl⟩, rfl⟩
    · rintro ⟨⟨h1, h2⟩, rfl⟩
      rcases h2 with h2 | ⟨q, hq, _⟩
      · rw [h2]; exact ⟨⟨h1, rfl⟩, rfl⟩
      · cases hq
  | some q =>
    rw [eval_guard, eval_ok]
    simp only [Bool.and_eq_true, beq_iff_eq, Bool.or_eq_true, List.isEmpty_iff, backSt, Option.getD_some]
    constructor
    · rintro ⟨⟨h1, h2⟩, rfl⟩
      exact ⟨⟨h1, h2.imp id fun h => ⟨q, rfl, h⟩⟩, rfl⟩
    · rintro ⟨⟨h1, h2⟩, rfl⟩
      refine ⟨⟨h1, h2.imp id fun ⟨q', hq, h⟩ => ?_⟩, rfl⟩
      obtain rfl : q = q' := by simpa using hq
      exact h

theorem len_setEnts (s0 : AS) (all : List Id) (q : Nat) : ∀ (ids : List Id) (es : List Ent) (s : AS), (AS.setEnts s0 all q s ids es).news.length = s.news.length
  | [], _, _ => by simp [AS.setEnts]
  | _ :: _, [], _ => by simp [AS.setEnts]
  | id :: ids, e :: es, s => by rw [AS.setEnts, len_setEnts s0 all q ids es, len_setEnt]

theorem len_made (s : AS) (ids : List Id) (q : Nat) (es : List Ent) : (s.made ids q es).news.length = s.news.length := by
  cases es <;> simp [AS.made, AS.born]

/-- The ids that a call sets. -/
def touched (ids : List Id) (d : Option Tmp) (G : GRes) (id : Id) : Prop := id ∈ ids ∨ (G.news ≠ [] ∧ ∃ q j, d = some q ∧ id = .new q j)

theorem backSt_ent {ids : List Id} {d : Option Tmp} {G : GRes} (hn : ids.Nodup) (hp : ∀ id ∈ ids, s.ent id ≠ none) (hl : G.olds.length = ids.length) (hv : G.news = [] ∨ ∃ q, d = some q ∧ s.virgin q = true) :
    (∀ id, ¬ touched ids d G id → (backSt s ids d G).ent id = s.ent id) ∧
    (∀ (k : Nat) (id : Id) (e : Ent), ids[k]? = some id → G.olds[k]? = some e → (backSt s ids d G).ent id = some (s.entOut ids (d.getD 0) (s.verOf id) e)) ∧
    (∀ q j, G.news ≠ [] → d = some q → (backSt s ids d G).ent (.new q j) = (G.news[j]?).map (s.entOut ids q 0)) ∧
    (∀ q j, G.news ≠ [] → d = some q → s.ent (.new q j) = none) := by
  have hv' : G.news = [] ∨ s.virgin (d.getD 0) = true := by
    rcases hv with h | ⟨q, rfl, h⟩
    · exact .inl h
    · exact .inr h
  obtain ⟨m1, m2⟩ := ent_made s ids (d.getD 0) G.news hv'
  have hnone : ∀ q j, G.news ≠ [] → d = some q → s.ent (.new q j) = none := fun q j h1 h2 => by
    rcases hv' with h | h
    · exact absurd h h1
    · subst h2; exact (virgin_iff.1 h).2 j
  have hnew : ∀ id, s.ent id ≠ none → G.news = [] ∨ ∀ j, id ≠ .new (d.getD 0) j := fun id hid => by
    rcases hv with h | ⟨q, rfl, h⟩
    · exact .inl h
    · exact .inr fun j e => hid (by rw [e]; exact (virgin_iff.1 h).2 j)
  obtain ⟨n1, n2⟩ := ent_setEnts s ids (d.getD 0) ids G.olds (s.made ids (d.getD 0) G.news) hn hl (fun id hid => by rw [m1 id (hnew id (hp id hid))]; exact hp id hid)
  refine ⟨fun id hid => ?_, fun k id e h1 h2 => ?_, fun q j h1 h2 => ?_, hnone⟩
  · unfold touched at hid
    simp only [not_or] at hid
    rw [backSt, ent_put, n1 id hid.1]
    refine m1 id ?_
    by_cases hne : G.news = []
    · exact .inl hne
    · right
      intro j e
      rcases hv with h | ⟨q, hq, _⟩
      · exact hne h
      · exact hid.2 ⟨hne, q, j, hq, by rw [e, hq]; rfl⟩
  · rw [backSt, ent_put, n2 k id e h1 h2]
  · subst h2
    have hnot : Id.new q j ∉ ids := fun hid => hp _ hid (hnone q j h1 rfl)
    rw [backSt, ent_put, n1 _ hnot]
    exact m2 h1 j

open Classical in
theorem call_local {c : Call} {F : Operand} {f : FuncId} {caps : AVal} {en : Entry} (hop : o.op = .call c) (hc : c.callee = .value F) (hF : s.ev F = .fn f caps) (hΓ : Γ f (c.args.toList.map s.ev ++ caps.list) = some en) {s' : AS}
    (he : (s.call en o.dst (c.args.toList.map s.ev ++ caps.list)).eval = some s') : LocA P Γ objs ops o s s' := by
  have hmem : ∀ z, z = F ∨ z ∈ c.args.toList → z ∈ o.op.operands.toList := fun z hz => by
    rw [hop]
    simp only [Op.operands, Call.operands, hc, Array.toList_append, List.mem_append]
    rcases hz with rfl | hz
    · exact .inl (by simp)
    · exact .inr hz
  -- what the values hang on
  have hvids : ∀ v ∈ c.args.toList.map s.ev ++ caps.list, ∀ id ∈ v.ids, id ∈ (foot Γ ops s o).rs := fun v hv id hid => by
    rcases List.mem_append.1 hv with hv | hv
    · obtain ⟨x, hx, rfl⟩ := List.mem_map.1 hv
      exact ids_in (hmem x (.inr hx)) hid
    · refine ids_in (hmem F (.inl rfl)) ?_
      rw [hF]
      exact list_ids caps v hv id hid
  generalize hvs : c.args.toList.map s.ev ++ caps.list = vs at he hvids hΓ
  have hws : (foot Γ ops s o).ws = s.reach 64 (lendIds en.params vs) [] := by
    show writes Γ s o = _
    unfold writes
    rw [hop]
    simp only [hc, hF, hvs, hΓ]
  have hao : ∀ t, Agree (foot Γ ops s o) s t → aop P Γ objs o t = t.call en o.dst vs := fun t ht => by
    unfold aop
    rw [hop]
    have h1 : t.ev F = .fn f caps := by rw [ht.ev (hmem F (.inl rfl)), hF]
    have h2 : c.args.toList.map t.ev = c.args.toList.map s.ev := List.map_congr_left fun x hx => ht.ev (hmem x (.inr hx))
    obtain ⟨cal, args, tys⟩ := c
    simp only at hc hvs h2
    subst hc
    simp only [h1, h2, hvs, hΓ]
  unfold AS.call at he
  obtain ⟨r, h1, h2⟩ := eval_bind.1 he
  obtain ⟨hr1, hr2⟩ := conv_parts _ _ r h1
  have hlends : ∀ t : AS, (t.freezeAll r.2).lends r.1 = t.reach 64 (lendIds en.params vs) [] := fun t => by
    unfold AS.lends
    rw [reach_freezeAll, hr1]
  rw [hlends] at h2
  generalize hW : s.reach 64 (lendIds en.params vs) [] = W at h2 hws
  have hWn : W.Nodup := by rw [← hW]; exact reach_nodup s _ _ _ (by simp)
  unfold AS.enter at h2
  obtain ⟨hall, h3⟩ := eval_guard.1 h2
  obtain ⟨x, hx, h4⟩ := eval_get.1 h3
  obtain ⟨⟨hl, hv⟩, rfl⟩ := back_some.1 h4
  generalize hG : en.out (r.1.map (AVal.ren ((s.freezeAll r.2).refIn W))) (W.map ((s.freezeAll r.2).entIn W)) x = G at hl hv h4 ⊢
  have hp : ∀ id ∈ W, (s.freezeAll r.2).ent id ≠ none := fun id hid => by
    have := List.all_eq_true.1 hall id hid
    obtain ⟨⟨v, fr, c⟩, hr⟩ := Option.isSome_iff_exists.1 this
    rw [obj_some hr]; simp
  obtain ⟨b1, b2, b3, b4⟩ := backSt_ent (s := s.freezeAll r.2) (d := o.dst) hWn hp hl hv
  have hfzent : ∀ (u : AS) id, u.ent id = none ↔ (u.freezeAll r.2).ent id = none := fun u id => by
    rw [ent_freezeAll_eq]; split <;> simp
  let E : Eff := ⟨G.val.ren ((s.freezeAll r.2).refOut W (o.dst.getD 0)), fun id => if touched W o.dst G id then (backSt (s.freezeAll r.2) W o.dst G).ent id else none, r.2⟩
  have hslots : ∀ u : AS, (backSt (u.freezeAll r.2) W o.dst G).slots = (u.put o.dst (G.val.ren ((u.freezeAll r.2).refOut W (o.dst.getD 0)))).slots := fun u => by
    unfold backSt
    cases o.dst <;> simp [AS.put, slots_setEnts, slots_made, slots_freezeAll]
  have hlen : ∀ u : AS, (backSt (u.freezeAll r.2) W o.dst G).news.length = u.news.length := fun u => by
    unfold backSt
    cases o.dst <;> simp [AS.put, len_setEnts, len_made, len_freezeAll]
  refine ⟨E, ⟨hslots s, hlen s, fun id => ?_⟩, ⟨fun id e hup => ?_, fun id hid => ?_⟩, fun t ht => ?_⟩
  · by_cases hto : touched W o.dst G id
    · have hup : E.up id = (backSt (s.freezeAll r.2) W o.dst G).ent id := if_pos hto
      rw [hup]
      cases hb : (backSt (s.freezeAll r.2) W o.dst G).ent id with
      | some e => rfl
      | none =>
        rcases hto with hid | ⟨hne, q, j, hq, rfl⟩
        · obtain ⟨k, hk⟩ := List.mem_iff_getElem?.1 hid
          have hlt : k < G.olds.length := by rw [hl]; exact (List.getElem?_eq_some_iff.1 hk).1
          rw [b2 k id _ hk (List.getElem?_eq_getElem hlt)] at hb
          cases hb
        · have := (hfzent s _).2 (b4 q j hne hq)
          simp [this]
    · have hup : E.up id = none := if_neg hto
      rw [hup, b1 id hto, ent_freezeAll_eq]
  · by_cases hto : touched W o.dst G id
    · rcases hto with hid | ⟨_, q, j, hq, rfl⟩
      · left
        refine ⟨by rw [hws]; exact hid, fun h => hp id hid ((hfzent s id).1 h)⟩
      · exact .inr ⟨q, j, hq, rfl⟩
    · have : E.up id = none := if_neg hto
      rw [this] at hup; cases hup
  · obtain ⟨v, hv, hid⟩ := hr2 id hid
    exact hvids v hv id hid
  · have hco : t.conv en.params vs = s.conv en.params vs := conv_congr _ _ fun v hv id hid => ht.rs id (hvids v hv id hid)
    have hag : ∀ id ∈ W, t.ent id = s.ent id := fun id hid => ht.ws id (by rw [hws]; exact hid)
    have hagf : ∀ id ∈ W, (t.freezeAll r.2).ent id = (s.freezeAll r.2).ent id := fun id hid => by
      rw [ent_freezeAll_eq, ent_freezeAll_eq, hag id hid]
    have hWt : t.reach 64 (lendIds en.params vs) [] = W := by
      rw [← hW]
      refine reach_congr _ _ _ fun id hid => ?_
      rw [hag id (by rw [← hW]; exact hid)]
    have hvt : G.news = [] ∨ ∃ q, o.dst = some q ∧ (t.freezeAll r.2).virgin q = true := hv.imp id fun ⟨q, hq, h⟩ => ⟨q, hq, by
      rw [virgin_freezeAll] at h ⊢
      rw [ht.virgin q hq]; exact h⟩
    have hpt : ∀ id ∈ W, (t.freezeAll r.2).ent id ≠ none := fun id hid => by rw [hagf id hid]; exact hp id hid
    obtain ⟨d1, d2, d3, d4⟩ := backSt_ent (s := t.freezeAll r.2) (d := o.dst) hWn hpt hl hvt
    refine ⟨backSt (t.freezeAll r.2) W o.dst G, ?_, ⟨?_, hlen t, fun id => ?_⟩⟩
    · rw [hao t ht]
      unfold AS.call
      rw [hco]
      refine eval_bind.2 ⟨r, h1, ?_⟩
      rw [hlends, hWt]
      unfold AS.enter
      have hA : (t.freezeAll r.2).refIn W = (s.freezeAll r.2).refIn W := refIn_congr hagf
      have hO : W.map ((t.freezeAll r.2).entIn W) = W.map ((s.freezeAll r.2).entIn W) := List.map_congr_left fun id hid => entIn_congr hagf hid
      refine eval_guard.2 ⟨?_, eval_get.2 ⟨x, ?_, ?_⟩⟩
      · refine List.all_eq_true.2 fun id hid => ?_
        have := List.all_eq_true.1 hall id hid
        simp only [AS.obj] at this ⊢
        rw [hagf id hid]
        exact this
      · rw [hA, hO, ← hx]
      · rw [hA, hO, hG]
        exact back_some.2 ⟨⟨hl, hvt⟩, rfl⟩
    · rw [hslots t, refOut_congr hagf]
    · by_cases hto : touched W o.dst G id
      · have hup : E.up id = (backSt (s.freezeAll r.2) W o.dst G).ent id := if_pos hto
        rw [hup]
        rcases hto with hid | ⟨hne, q, j, hq, rfl⟩
        · obtain ⟨k, hk⟩ := List.mem_iff_getElem?.1 hid
          have hlt : k < G.olds.length := by rw [hl]; exact (List.getElem?_eq_some_iff.1 hk).1
          rw [b2 k id _ hk (List.getElem?_eq_getElem hlt), d2 k id _ hk (List.getElem?_eq_getElem hlt), entOut_congr hagf, verOf_congr (hagf id hid)]
        · rw [b3 q j hne hq, d3 q j hne hq, entOut_congr hagf]
          cases hn : G.news[j]? with
          | some e => rfl
          | none =>
            have := (hfzent t _).2 (d4 q j hne hq)
            simp [this]
      · have hup : E.up id = none := if_neg hto
        rw [hup, d1 id hto, ent_freezeAll_eq]

end
end Go.Ab

/-
  Drawn regions, third part: every operation, continued.
-/
namespace Go.Ab

section
variable {P : Program} {Γ : Gam} {objs : List Nat} {ops : Array Oper} {o : Oper} {s t : AS}

theorem Out.bind_assoc {α β γ : Type} (o : Out α) (f : α → Out β) (g : β → Out γ) : (o.bind f).bind g = o.bind fun a => (f a).bind g := by
  induction o with
  | ok a => rfl
  | fail => rfl
  | chk c r ih => simp only [Out.bind, ih]
  | get x h ih => simp only [Out.bind, ih]
  | br c x y ih1 ih2 => simp only [Out.bind, ih1, ih2]

theorem part_mem {parts : Array (Nat × Operand)} {x : Nat × Operand} (h : x ∈ parts.toList) : x.2 ∈ (parts.toList.map (·.2)).toArray.toList := List.mem_map.2 ⟨x, h, rfl⟩

theorem box_local {T : TypeId} {x : Operand} (hop : o.op = .box T x) {s' : AS} (he : (boxA P s (isObj objs o.dst) o.dst T (s.ev x)).eval = some s') : LocA P Γ objs ops o s s' := by
  have hao : ∀ t, aop P Γ objs o t = boxA P t (isObj objs o.dst) o.dst T (t.ev x) := fun t => by unfold aop; rw [hop]
  have hm : x ∈ o.op.operands.toList := by rw [hop]; simp [Op.operands]
  unfold boxA at he
  split at he
  · rename_i q hd
    split at he
    · rename_i ho
      obtain ⟨h1, h2⟩ := eval_guard.1 he
      obtain rfl := eval_ok.1 h2
      simp only [Bool.and_eq_true] at h1
      refine loc_born (ids := []) hd h1.1 (fun _ h => by cases h) fun t ht hv => ?_
      rw [hao, ht.ev hm]
      unfold boxA
      simp only [hd] at ho ⊢
      simp only [ho]
      exact eval_guard.2 ⟨by simp [hv, h1.2], eval_ok.2 rfl⟩
    · rename_i ho
      split at he
      · rename_i ty hty
        obtain ⟨h1, h2⟩ := eval_guard.1 he
        obtain ⟨y, h3, h4⟩ := eval_bind.1 h2
        obtain rfl := eval_ok.1 h4
        refine loc_frz (fun id hid => ids_in hm (shared_ids _ _ hid)) fun t ht => ?_
        rw [hao, ht.ev hm]
        unfold boxA
        simp only [hd] at ho ⊢
        simp only [ho, hty]
        refine eval_guard.2 ⟨h1, eval_bind.2 ⟨y, ?_, eval_ok.2 rfl⟩⟩
        rw [toTy_congr _ _ fun id hid => ht.sim hm hid]; exact h3
      · simp only [eval_fail] at he
  · simp only [eval_fail] at he

theorem toArr_local {T : TypeId} {x : Operand} (hop : o.op = .sliceToArrayPointer T x) {s' : AS} (he : (toArrA P s o.dst T (s.ev x)).eval = some s') : LocA P Γ objs ops o s s' := by
  have hao : ∀ t, aop P Γ objs o t = toArrA P t o.dst T (t.ev x) := fun t => by unfold aop; rw [hop]
  have hm : x ∈ o.op.operands.toList := by rw [hop]; simp [Op.operands]
  unfold toArrA at he
  split at he
  · rename_i n e hT
    split at he
    · rename_i ty hty
      obtain ⟨h1, h2⟩ := eval_guard.1 he
      obtain ⟨l, h3, h4⟩ := eval_bind.1 h2
      obtain ⟨h5, h6⟩ := eval_chk.1 h4
      obtain rfl := eval_ok.1 h6
      refine loc_frz (fun id hid => ids_in hm (shared_ids _ _ hid)) fun t ht => ?_
      rw [hao, ht.ev hm]
      unfold toArrA
      simp only [hT, hty]
      refine eval_guard.2 ⟨h1, eval_bind.2 ⟨l, ?_, eval_chk.2 ⟨h5, eval_ok.2 rfl⟩⟩⟩
      rw [toTy_congr _ _ fun id hid => ht.sim hm hid]; exact h3
    · simp only [eval_fail] at he
  · simp only [eval_fail] at he

theorem build_local {T : TypeId} {parts : Array (Nat × Operand)} (hop : o.op = .build T parts) {s' : AS} (he : (buildA P s o.dst T parts.toList).eval = some s') : LocA P Γ objs ops o s s' := by
  have hao : ∀ t, aop P Γ objs o t = buildA P t o.dst T parts.toList := fun t => by unfold aop; rw [hop]
  have hm : ∀ x ∈ parts.toList, x.2 ∈ o.op.operands.toList := fun x hx => by rw [hop]; exact part_mem hx
  unfold buildA at he
  split at he
  · rename_i fs hT
    split at he
    · rename_i z hz
      obtain ⟨h1, h2⟩ := eval_guard.1 he
      obtain ⟨v, h3, h4⟩ := eval_bind.1 h2
      obtain rfl := eval_ok.1 h4
      refine loc_put fun t ht => ?_
      rw [hao]
      unfold buildA
      simp only [hT, hz]
      refine eval_guard.2 ⟨h1, eval_bind.2 ⟨v, ?_, eval_ok.2 rfl⟩⟩
      rw [setFields_congr _ _ fun x hx => ht.ev (hm x hx)]; exact h3
    · simp only [eval_fail] at he
  · rename_i n e hT
    split at he
    · rename_i ty hty
      obtain ⟨h1, h2⟩ := eval_guard.1 he
      obtain ⟨r, h3, h4⟩ := eval_bind.1 h2
      obtain rfl := eval_ok.1 h4
      refine loc_frz (fun id hid => ?_) fun t ht => ?_
      · obtain ⟨x, hx, hi⟩ := setParts_shared _ _ _ h3 id hid
        exact ids_in (hm x hx) hi
      · rw [hao]
        unfold buildA
        simp only [hT, hty]
        refine eval_guard.2 ⟨h1, eval_bind.2 ⟨r, ?_, eval_ok.2 rfl⟩⟩
        rw [setParts_congr _ _ fun x hx => ⟨ht.ev (hm x hx), fun id hid => ht.sim (hm x hx) hid⟩]; exact h3
    · simp only [eval_fail] at he
  · simp only [eval_fail] at he

theorem buildSlice_local {T : TypeId} {n : Nat} {parts : Array (Nat × Operand)} (hop : o.op = .buildSlice T n parts) {s' : AS} (he : (buildSliceA P s (isObj objs o.dst) o.dst T n parts.toList).eval = some s') : LocA P Γ objs ops o s s' := by
  have hao : ∀ t, aop P Γ objs o t = buildSliceA P t (isObj objs o.dst) o.dst T n parts.toList := fun t => by unfold aop; rw [hop]
  have hm : ∀ x ∈ parts.toList, x.2 ∈ o.op.operands.toList := fun x hx => by rw [hop]; exact part_mem hx
  unfold buildSliceA at he
  split at he
  · rename_i e ty b q hel hd
    obtain ⟨h1, h2⟩ := eval_guard.1 he
    obtain ⟨r, h3, h4⟩ := eval_bind.1 h2
    have hsh : ∀ id ∈ r.2, id ∈ (foot Γ ops s o).rs := fun id hid => by
      obtain ⟨x, hx, hi⟩ := setParts_shared _ _ _ h3 id hid
      exact ids_in (hm x hx) hi
    have hco : ∀ t, Agree (foot Γ ops s o) s t → ∀ l, setParts ty t parts.toList l = setParts ty s parts.toList l := fun t ht l => setParts_congr _ _ fun x hx => ⟨ht.ev (hm x hx), fun id hid => ht.sim (hm x hx) hid⟩
    split at h4
    · rename_i ho
      obtain ⟨h5, h6⟩ := eval_guard.1 h4
      obtain rfl := eval_ok.1 h6
      refine loc_born hd h5 hsh fun t ht hv => ?_
      rw [hao]
      unfold buildSliceA
      simp only [hd] at ho hel ⊢
      simp only [hel, ho]
      refine eval_guard.2 ⟨h1, eval_bind.2 ⟨r, by rw [hco t ht]; exact h3, eval_guard.2 ⟨hv, eval_ok.2 rfl⟩⟩⟩
    · rename_i ho
      obtain rfl := eval_ok.1 h4
      refine loc_frz hsh fun t ht => ?_
      rw [hao]
      unfold buildSliceA
      simp only [hd] at ho hel ⊢
      simp only [hel, ho]
      exact eval_guard.2 ⟨h1, eval_bind.2 ⟨r, by rw [hco t ht]; exact h3, eval_ok.2 rfl⟩⟩
  · simp only [eval_fail] at he

theorem makeSlice_local {T : TypeId} {x y : Operand} (hop : o.op = .makeSlice T x y) {len cap : Int} (hx : (asInt (s.ev x)).eval = some len) (hy : (asInt (s.ev y)).eval = some cap) {s' : AS} (he : (makeSliceA P s o.dst T len cap).eval = some s') : LocA P Γ objs ops o s s' := by
  have hao : ∀ t, aop P Γ objs o t = (asInt (t.ev x)).bind fun l => (asInt (t.ev y)).bind fun c => makeSliceA P t o.dst T l c := fun t => by unfold aop; rw [hop]
  have hm : ∀ z, z = x ∨ z = y → z ∈ o.op.operands.toList := fun z hz => by rw [hop]; simpa [Op.operands] using hz
  unfold makeSliceA at he
  split at he
  · rename_i e ty b q hel hd
    obtain ⟨h1, h2⟩ := eval_guard.1 he
    obtain ⟨h3, h4⟩ := eval_chk.1 h2
    obtain rfl := eval_ok.1 h4
    refine loc_born (ids := []) hd h1 (fun _ h => by cases h) fun t ht hv => ?_
    rw [hao, ht.ev (hm x (.inl rfl)), ht.ev (hm y (.inr rfl))]
    refine eval_bind.2 ⟨len, hx, eval_bind.2 ⟨cap, hy, ?_⟩⟩
    unfold makeSliceA
    simp only [hel, hd]
    exact eval_guard.2 ⟨hv, eval_chk.2 ⟨h3, eval_ok.2 rfl⟩⟩
  · simp only [eval_fail] at he

theorem aop_local {s' : AS} (he : (aop P Γ objs o s).eval = some s') : LocA P Γ objs ops o s s' := by
  have he0 := he
  have one : ∀ x, o.op.operands = #[x] → ∀ t, Agree (foot Γ ops s o) s t → t.ev x = s.ev x ∧ ∀ id ∈ (s.ev x).ids, simO (t.ent id) (s.ent id) := fun x hx t ht =>
    have hm : x ∈ o.op.operands.toList := by rw [hx]; simp
    ⟨ht.ev hm, fun _ hid => ht.sim hm hid⟩
  unfold aop at he
  split at he
  · rename_i x hop
    obtain rfl := eval_ok.1 he
    refine loc_put fun t ht => ?_
    unfold aop
    rw [hop]
    simp only
    rw [(one x (by rw [hop]; rfl) t ht).1]; rfl
  · rename_i x hop
    obtain rfl := eval_ok.1 he
    refine loc_put fun t ht => ?_
    unfold aop
    rw [hop]
    simp only
    rw [(one x (by rw [hop]; rfl) t ht).1]; rfl
  · rename_i c x y hop
    refine loc_out (F := fun t => pickA (t.ev c) (t.ev x) (t.ev y)) (fun t => by unfold aop; rw [hop]) (fun t ht => ?_) he0
    rw [ht.ev (by rw [hop]; simp [Op.operands]), ht.ev (by rw [hop]; simp [Op.operands]), ht.ev (by rw [hop]; simp [Op.operands])]
  · rename_i T hop
    split at he
    · rename_i z q hz hq
      obtain ⟨h1, h2⟩ := eval_guard.1 he
      obtain rfl := eval_ok.1 h2
      simp only [Bool.and_eq_true] at h1
      refine loc_born (ids := []) hq h1.1 (fun _ h => by cases h) fun t ht hv => ?_
      unfold aop
      rw [hop]
      simp only [hz, hq]
      exact eval_guard.2 ⟨by simp [hv, h1.2], eval_ok.2 rfl⟩
    · exact (eval_fail.1 he).elim
  · rename_i T x hop
    exact box_local hop he
  · rename_i T parts hop
    exact build_local hop he
  · rename_i T n parts hop
    exact buildSlice_local hop he
  · rename_i T x hop
    refine loc_out (F := fun t => loadA P t T (t.ev x)) (fun t => by unfold aop; rw [hop]) (fun t ht => ?_) he0
    obtain ⟨h1, h2⟩ := one x (by rw [hop]; rfl) t ht
    rw [h1, loadA_congr h2]
  · rename_i T x v hop
    obtain ⟨s1, h1, h2⟩ := eval_bind.1 he
    obtain rfl := eval_ok.1 h2
    obtain ⟨id, e0, e, hid, hs, rfl, hl⟩ := storeA_local h1
    refine loc_set hs ?_ fun t ht hte => ?_
    · show id ∈ writes Γ s o
      unfold writes
      rw [hop]
      simp only [hid, List.mem_singleton]
    · unfold aop
      rw [hop]
      simp only
      rw [ht.ev (x := x) (by rw [hop]; simp [Op.operands]), ht.ev (x := v) (by rw [hop]; simp [Op.operands])]
      exact eval_bind.2 ⟨_, hl t hte, eval_ok.2 rfl⟩
  · rename_i x hop
    split at he
    · rename_i id v p n hx
      obtain rfl := eval_ok.1 he
      refine loc_put fun t ht => ?_
      unfold aop
      rw [hop]
      simp only [(one x (by rw [hop]; rfl) t ht).1, hx]; rfl
    · rename_i ty y hx
      obtain rfl := eval_ok.1 he
      refine loc_put fun t ht => ?_
      unfold aop
      rw [hop]
      simp only [(one x (by rw [hop]; rfl) t ht).1, hx]; rfl
    · rename_i f c hx
      obtain rfl := eval_ok.1 he
      refine loc_put fun t ht => ?_
      unfold aop
      rw [hop]
      simp only [(one x (by rw [hop]; rfl) t ht).1, hx]; rfl
    · exact (eval_fail.1 he).elim
  · rename_i op T x y U hop
    have hmx : x ∈ o.op.operands.toList := by rw [hop]; simp [Op.operands]
    have hmy : y ∈ o.op.operands.toList := by rw [hop]; simp [Op.operands]
    split at he
    · rename_i i v1 j v2 hx hy
      obtain ⟨v, h1, h2⟩ := eval_bind.1 he
      obtain rfl := eval_ok.1 h2
      refine loc_put fun t ht => ?_
      unfold aop
      rw [hop]
      simp only [ht.ev hmx, ht.ev hmy, hx, hy]
      exact eval_bind.2 ⟨v, by rw [eqP_congr (ht.sim hmx (by rw [hx]; simp [AVal.ids]))]; exact h1, rfl⟩
    · rename_i hne
      obtain ⟨v, h1, h2⟩ := eval_bind.1 he
      obtain rfl := eval_ok.1 h2
      refine loc_put fun t ht => ?_
      unfold aop
      rw [hop]
      simp only [ht.ev hmx, ht.ev hmy]
      exact eval_bind.2 ⟨v, h1, rfl⟩
  · rename_i op T x hop
    refine loc_out (F := fun t => unA op (t.ev x)) (fun t => by unfold aop; rw [hop]) (fun t ht => ?_) he0
    rw [(one x (by rw [hop]; rfl) t ht).1]
  · rename_i T U x hop
    split at he
    · rename_i id ver len hTU hx
      unfold convK at he
      split at he
      · rename_i v e0 l e hob hD
        split at he
        · rename_i hE
          obtain ⟨h1, h2⟩ := eval_guard.1 he
          obtain ⟨h3, h4⟩ := eval_chk.1 h2
          obtain rfl := eval_ok.1 h4
          refine loc_set (obj_some hob) ?_ fun t ht hte => ?_
          · show id ∈ writes Γ s o
            unfold writes
            rw [hop]
            simp only [hTU, hx]
            simp [AVal.ids]
          · have hob' : t.obj id = some (v, false, .vec e0 (.int .u8) l) := by simp only [AS.obj, hte]; exact hob
            unfold aop
            rw [hop]
            simp only [hTU, (one x (by rw [hop]; rfl) t ht).1, hx]
            unfold convK
            simp only [hob', hD, hE]
            exact eval_guard.2 ⟨h1, eval_chk.2 ⟨h3, eval_ok.2 rfl⟩⟩
        · exact (eval_fail.1 he).elim
      · exact (eval_fail.1 he).elim
    · rename_i id ver hx
      obtain ⟨v, h1, h2⟩ := eval_bind.1 he
      obtain rfl := eval_ok.1 h2
      refine loc_put fun t ht => ?_
      obtain ⟨h3, h4⟩ := one x (by rw [hop]; rfl) t ht
      unfold aop
      rw [hop]
      simp only [h3, hx]
      exact eval_bind.2 ⟨v, by rw [convP_congr (h4 _ (by rw [hx]; simp [AVal.ids]))]; exact h1, rfl⟩
    · rename_i hne
      obtain ⟨v, h1, h2⟩ := eval_bind.1 he
      obtain rfl := eval_ok.1 h2
      refine loc_put fun t ht => ?_
      obtain ⟨h3, h4⟩ := one x (by rw [hop]; rfl) t ht
      unfold aop
      rw [hop]
      simp only [h3]
      exact eval_bind.2 ⟨v, by rw [convA_congr h4]; exact h1, rfl⟩
  · rename_i T x hop
    exact toArr_local hop he
  · rename_i f first caps hop
    obtain ⟨h1, h2⟩ := eval_guard.1 he
    obtain rfl := eval_ok.1 h2
    refine loc_put fun t ht => ?_
    have hc : capsOf t caps.toList = capsOf s caps.toList := capsOf_congr _ fun x hx => ht.ev (by rw [hop]; simp only [Op.operands, Array.toList_append]; exact List.mem_append.2 (.inr hx))
    unfold aop
    rw [hop]
    simp only [hc]
    exact eval_guard.2 ⟨h1, eval_ok.2 rfl⟩
  · rename_i T l c hop
    obtain ⟨n, h1, h2⟩ := eval_bind.1 he
    obtain ⟨m, h3, h4⟩ := eval_bind.1 h2
    exact makeSlice_local hop h1 h3 h4
  · rename_i T x lo hi hop
    refine loc_out (F := fun t => sliceA P t T (t.ev x) lo hi) (fun t => by unfold aop; rw [hop]) (fun t ht => ?_) he0
    have hm : ∀ z, (z = x ∨ lo = some z ∨ hi = some z) → z ∈ o.op.operands.toList := fun z hz => by
      rw [hop]
      simp only [Op.operands, Array.toList_append, List.mem_append]
      rcases hz with rfl | rfl | rfl
      · left; left; left; simp
      · left; left; right; simp
      · left; right; simp
    have hx := hm x (.inl rfl)
    rw [ht.ev hx]
    exact sliceA_congr (fun id hid => ht.sim hx hid) (fun y hy => ht.ev (hm y (.inr (.inl hy)))) (fun y hy => ht.ev (hm y (.inr (.inr hy))))
  · rename_i T x f hop
    refine loc_out (F := fun t => fieldAddrA P T (t.ev x) f) (fun t => by unfold aop; rw [hop]) (fun t ht => ?_) he0
    rw [(one x (by rw [hop]; rfl) t ht).1]
  · rename_i T x f hop
    refine loc_out (F := fun t => fieldA P T (t.ev x) f) (fun t => by unfold aop; rw [hop]) (fun t ht => ?_) he0
    rw [(one x (by rw [hop]; rfl) t ht).1]
  · rename_i T x i hop
    refine loc_out (F := fun t => (asInt (t.ev i)).bind fun i => indexAddrA P t T (t.ev x) i) (fun t => by unfold aop; rw [hop, Out.bind_assoc]) (fun t ht => ?_) he0
    have hx : x ∈ o.op.operands.toList := by rw [hop]; simp [Op.operands]
    rw [ht.ev (x := i) (by rw [hop]; simp [Op.operands]), ht.ev hx]
    congr 1
    funext i
    exact indexAddrA_congr fun id hid => ht.sim hx hid
  · rename_i T x i hop
    refine loc_out (F := fun t => (asInt (t.ev i)).bind fun i => indexA P T (t.ev x) i) (fun t => by unfold aop; rw [hop, Out.bind_assoc]) (fun t ht => ?_) he0
    rw [ht.ev (x := i) (by rw [hop]; simp [Op.operands]), ht.ev (x := x) (by rw [hop]; simp [Op.operands])]
  · rename_i x i hop
    refine loc_out (F := fun t => Out.opt ((t.ev x).list[i]?)) (fun t => by unfold aop; rw [hop]) (fun t ht => ?_) he0
    rw [(one x (by rw [hop]; rfl) t ht).1]
  · rename_i c hop
    obtain ⟨cal, args, tys⟩ := c
    simp only at he
    split at he
    · split at he
      · rename_i x T ha ht'
        refine loc_out (F := fun t => lenA P T (t.ev x)) (fun t => by unfold aop; rw [hop]; simp only [ha, ht']) (fun t ht => ?_) he0
        rw [ht.ev (by rw [hop]; simp only [Op.operands, Call.operands, List.nil_append, Array.toList_append, ha]; simp)]
      · exact (eval_fail.1 he).elim
    · split at he
      · rename_i x y T X ha ht'
        have hmx : x ∈ o.op.operands.toList := by rw [hop]; simp only [Op.operands, Call.operands, List.nil_append, Array.toList_append, ha]; simp
        have hmy : y ∈ o.op.operands.toList := by rw [hop]; simp only [Op.operands, Call.operands, List.nil_append, Array.toList_append, ha]; simp
        split at he
        · rename_i k n hx hy
          have he1 := he
          unfold growA at he1
          split at he1
          · rename_i e t0 b q kn hel hd hX
            obtain ⟨h1, h2⟩ := eval_guard.1 he1
            obtain ⟨h3, h4⟩ := eval_chk.1 h2
            obtain rfl := eval_ok.1 h4
            refine loc_born (ids := []) hd h1 (fun _ h => by cases h) fun t ht hv => ?_
            unfold aop
            rw [hop]
            simp only [ha, ht', ht.ev hmx, ht.ev hmy, hx, hy]
            unfold growA
            simp only [hel, hd, hX]
            exact eval_guard.2 ⟨hv, eval_chk.2 ⟨h3, eval_ok.2 rfl⟩⟩
          · exact (eval_fail.1 he1).elim
        · rename_i hne
          exact append_local hop rfl ha ht' hne he
      · exact (eval_fail.1 he).elim
    · split at he
      · rename_i x T ha ht'
        have hmx : x ∈ o.op.operands.toList := by rw [hop]; simp only [Op.operands, Call.operands, List.nil_append, Array.toList_append, ha]; simp
        split at he
        · rename_i e hx hT
          obtain rfl := eval_ok.1 he
          refine loc_put fun t ht => ?_
          unfold aop
          rw [hop]
          simp only [ha, ht', ht.ev hmx, hx, hT]; rfl
        · exact (eval_fail.1 he).elim
      · exact (eval_fail.1 he).elim
    · refine loc_out (F := fun t => minA true (args.toList.map t.ev)) (fun t => by unfold aop; rw [hop]) (fun t ht => ?_) he0
      congr 1
      exact List.map_congr_left fun x hx => ht.ev (by rw [hop]; simp only [Op.operands, Call.operands, List.nil_append, Array.toList_append]; exact hx)
    · refine loc_out (F := fun t => minA false (args.toList.map t.ev)) (fun t => by unfold aop; rw [hop]) (fun t ht => ?_) he0
      congr 1
      exact List.map_congr_left fun x hx => ht.ev (by rw [hop]; simp only [Op.operands, Call.operands, List.nil_append, Array.toList_append]; exact hx)
    · split at he
      · rename_i x ha
        have hmx : x ∈ o.op.operands.toList := by rw [hop]; simp only [Op.operands, Call.operands, List.nil_append, Array.toList_append, ha]; simp
        split at he
        · rename_i id ver len hx
          obtain ⟨h1, h2⟩ := eval_chk.1 he
          obtain rfl := eval_ok.1 h2
          refine loc_put fun t ht => ?_
          unfold aop
          rw [hop]
          simp only [ha, ht.ev hmx, hx]
          exact eval_chk.2 ⟨h1, rfl⟩
        · exact (eval_fail.1 he).elim
      · exact (eval_fail.1 he).elim
    · split at he
      · rename_i x y T U ha ht'
        have hmx : x ∈ o.op.operands.toList := by rw [hop]; simp only [Op.operands, Call.operands, List.nil_append, Array.toList_append, ha]; simp
        have hmy : y ∈ o.op.operands.toList := by rw [hop]; simp only [Op.operands, Call.operands, List.nil_append, Array.toList_append, ha]; simp
        split at he
        · rename_i id ver n hx hy
          have he1 := he
          unfold textA at he1
          split at he1
          · rename_i v e l u hob hT
            obtain ⟨h1, h2⟩ := eval_guard.1 he1
            obtain ⟨h3, h4⟩ := eval_chk.1 h2
            obtain rfl := eval_ok.1 h4
            refine loc_set (obj_some hob) ?_ fun t ht hte => ?_
            · show id ∈ writes Γ s o
              unfold writes
              rw [hop]
              simp only [ha, hx]
              simp [AVal.ids]
            · have hob' : t.obj id = some (v, false, .vec e (.int .u8) l) := by simp only [AS.obj, hte]; exact hob
              unfold aop
              rw [hop]
              simp only [ha, ht', ht.ev hmx, ht.ev hmy, hx, hy]
              unfold textA
              simp only [hob', hT]
              exact eval_guard.2 ⟨h1, eval_chk.2 ⟨h3, eval_ok.2 rfl⟩⟩
          · exact (eval_fail.1 he1).elim
        · exact (eval_fail.1 he).elim
      · exact (eval_fail.1 he).elim
    · rename_i F _
      split at he
      · rename_i f caps hF
        split at he
        · rename_i en hen
          exact call_local hop rfl hF hen he
        · exact (eval_fail.1 he).elim
      · exact (eval_fail.1 he).elim
    · exact (eval_fail.1 he).elim
  · exact (eval_fail.1 he).elim

end
end Go.Ab
/-
  Drawn regions, fourth part: two operations that have nothing to do with one another change places.
-/
namespace Go.Ab

section
variable {P : Program} {Γ : Gam} {objs : List Nat} {ops : Array Oper} {o : Oper} {s t : AS}

/-! ### With its guard -/

def Loc (P : Program) (Γ : Gam) (objs : List Nat) (ops : Array Oper) (o : Oper) (s s' : AS) : Prop :=
  ∃ E, App o.dst E s s' ∧ Within (foot Γ ops s o) s E ∧ ∀ t, Agree (foot Γ ops s o) s t → ∃ t', gop1 P Γ objs ops o t = some t' ∧ App o.dst E t t'

theorem gop1_local {s' : AS} (he : gop1 P Γ objs ops o s = some s') : Loc P Γ objs ops o s s' := by
  unfold gop1 at he
  split at he
  · rename_i hg
    obtain ⟨E, h1, h2, h3⟩ := aop_local (ops := ops) he
    refine ⟨E, h1, h2, fun t ht => ?_⟩
    obtain ⟨t', h4, h5⟩ := h3 t ht
    exact ⟨t', by unfold gop1; simp only [hg]; exact h4, h5⟩
  · rename_i j want hg
    split at he
    · rename_i q hq
      split at he
      · rename_i b hb
        have hsl : ∀ t, Agree (foot Γ ops s o) s t → t.slot q = .d .bool b := fun t ht => by
          rw [ht.slots q (List.mem_append.2 (.inr (by unfold guardSlot; simp only [hg, hq]; simp)))]; exact hb
        by_cases e : b = want
        · rw [if_pos e] at he
          obtain ⟨E, h1, h2, h3⟩ := aop_local (ops := ops) he
          refine ⟨E, h1, h2, fun t ht => ?_⟩
          obtain ⟨t', h4, h5⟩ := h3 t ht
          exact ⟨t', by unfold gop1; simp only [hg, hq, hsl t ht, if_pos e]; exact h4, h5⟩
        · rw [if_neg e] at he
          simp only [Option.some.injEq] at he
          subst he
          exact ⟨⟨.nil, fun _ => none, []⟩, App.justPut _ _ _, ⟨fun _ _ h => by simp at h, fun _ h => by simp at h⟩, fun t ht => ⟨_, by unfold gop1; simp only [hg, hq, hsl t ht, if_neg e], App.justPut _ _ _⟩⟩
      · rename_i hb
        have hsl : ∀ t, Agree (foot Γ ops s o) s t → t.slot q = .nil := fun t ht => by
          rw [ht.slots q (List.mem_append.2 (.inr (by unfold guardSlot; simp only [hg, hq]; simp)))]; exact hb
        simp only [Option.some.injEq] at he
        subst he
        exact ⟨⟨.nil, fun _ => none, []⟩, App.justPut _ _ _, ⟨fun _ _ h => by simp at h, fun _ h => by simp at h⟩, fun t ht => ⟨_, by unfold gop1; simp only [hg, hq, hsl t ht], App.justPut _ _ _⟩⟩
      · cases he
    · cases he

theorem writes_congr (h : Agree (foot Γ ops s o) s t) : writes Γ t o = writes Γ s o := by
  have hws : ∀ id ∈ writes Γ s o, t.ent id = s.ent id := h.ws
  unfold writes at hws ⊢
  split
  · rename_i x v hop
    rw [h.ev (by rw [hop]; simp [Op.operands])]
  · rename_i T U x hop
    rw [h.ev (by rw [hop]; simp [Op.operands])]
  · rename_i c hop
    obtain ⟨cal, args, tys⟩ := c
    simp only [hop] at hws
    simp only
    split
    · split
      · rename_i x l ha
        rw [h.ev (by rw [hop]; simp only [Op.operands, Call.operands, List.nil_append, Array.toList_append, ha]; simp)]
      · rfl
    · split
      · rename_i x l ha
        rw [h.ev (by rw [hop]; simp only [Op.operands, Call.operands, List.nil_append, Array.toList_append, ha]; simp)]
      · rfl
    · rename_i F
      simp only at hws
      have hm : ∀ z, z = F ∨ z ∈ args.toList → z ∈ o.op.operands.toList := fun z hz => by
        rw [hop]
        simp only [Op.operands, Call.operands, Array.toList_append, List.mem_append]
        rcases hz with rfl | hz
        · exact .inl (by simp)
        · exact .inr hz
      have h1 : t.ev F = s.ev F := h.ev (hm F (.inl rfl))
      have h2 : args.toList.map t.ev = args.toList.map s.ev := List.map_congr_left fun x hx => h.ev (hm x (.inr hx))
      rw [h1]
      split
      · rename_i f caps hF
        simp only [hF] at hws
        rw [h2]
        split
        · rename_i en hen
          simp only [hen] at hws
          exact reach_congr _ _ _ fun id hid => by rw [hws id hid]
        · rfl
      · rfl
    · rfl
  · rfl

theorem foot_congr (h : Agree (foot Γ ops s o) s t) : foot Γ ops t o = foot Γ ops s o := by
  have h1 := writes_congr h
  have h2 : opIds t o = opIds s o := by
    unfold opIds
    unfold List.flatMap
    congr 1
    exact List.map_congr_left fun i hi => by rw [h.slots i (List.mem_append.2 (.inl hi))]
  unfold foot
  rw [h1, h2]

/-! ### Two operations -/

theorem meets_false {xs ys : List Id} (h : meets xs ys = false) {id : Id} (hx : id ∈ xs) : id ∉ ys := by
  intro hy
  have : meets xs ys = true := by
    unfold meets
    exact List.any_eq_true.2 ⟨id, hx, List.any_eq_true.2 ⟨id, hy, by simp⟩⟩
  rw [h] at this; cases this

theorem siteIn_false {d : Option Tmp} {ids : List Id} (h : siteIn d ids = false) {q : Nat} (hd : d = some q) (j : Nat) : Id.new q j ∉ ids := by
  intro hy
  have : siteIn d ids = true := by
    subst hd
    exact List.any_eq_true.2 ⟨_, hy, by simp⟩
  rw [h] at this; cases this

theorem hit_false {f g : Foot} (h : f.hit g = false) {q : Nat} (hd : f.dst = some q) : q ∉ g.slots ∧ g.dst ≠ some q := by
  unfold Foot.hit at h
  rw [hd] at h
  simp only [Bool.or_eq_false_iff, List.any_eq_false, decide_eq_true_eq, decide_eq_false_iff_not] at h
  exact ⟨fun hx => h.1 q hx rfl, h.2⟩

theorem slot_put_ne (s : AS) (d : Option Tmp) (v : AVal) (i : Nat) (h : d ≠ some i) : (s.put d v).slot i = s.slot i := by
  cases d with
  | none => rfl
  | some q => rw [slot_put, if_neg]; rintro ⟨rfl, _⟩; exact h rfl

theorem App.slot {d : Option Tmp} {E : Eff} {s s' : AS} (h : App d E s s') (i : Nat) (hi : d ≠ some i) : s'.slot i = s.slot i := by
  rw [← slot_put_ne s d E.v i hi]
  simp only [AS.slot, h.slots]

/-- Is a state behind an effect the same as ahead of it, where another footprint looks? -/
theorem agree_of {f f' : Foot} {E : Eff} {s s1 : AS} (ha : App f.dst E s s1) (hw : Within f s E) (hsub : ∀ id ∈ f'.ws, id ∈ f'.rs) (h1 : f.hit f' = false) (h2 : meets f.ws f'.rs = false) (h3 : meets f'.ws f.rs = false)
    (h4 : siteIn f.dst f'.rs = false) : (∀ i ∈ f'.slots, s1.slot i = s.slot i) ∧ (∀ id ∈ f'.ws, s1.ent id = s.ent id) ∧ (∀ id ∈ f'.rs, simO (s1.ent id) (s.ent id)) ∧ ∀ q, f'.dst = some q → s1.virgin q = s.virgin q := by
  have hup : ∀ id ∈ f'.rs, E.up id = none := fun id hid => by
    cases hu : E.up id with
    | none => rfl
    | some e =>
      rcases hw.up id e hu with ⟨h, _⟩ | ⟨q, j, hd, rfl⟩
      · exact absurd hid (meets_false h2 h)
      · exact absurd hid (siteIn_false h4 hd j)
  refine ⟨fun i hi => ha.slot i fun hd => (hit_false h1 hd).1 hi, fun id hid => ?_, fun id hid => ?_, fun q hq => ?_⟩
  · rw [ha.ent, hup id (hsub id hid)]
    have : id ∉ E.fz := fun hz => meets_false h3 hid (hw.fz id hz)
    simp only [if_neg this]
  · rw [ha.ent, hup id hid]
    simp only
    split
    · exact simO_frz' _
    · exact simO_refl _
  · have hne : ∀ j, (s1.ent (.new q j) = none ↔ s.ent (.new q j) = none) := fun j => by
      rw [ha.ent]
      cases hu : E.up (.new q j) with
      | none =>
        simp only
        split <;> simp
      | some e =>
        rcases hw.up _ e hu with ⟨_, h⟩ | ⟨q', j', hd, he⟩
        · simp [h]
        · simp only [Id.new.injEq] at he
          obtain ⟨rfl, _⟩ := he
          exact absurd hq (hit_false h1 hd).2
    rw [Bool.eq_iff_iff, virgin_iff, virgin_iff, ha.len]
    exact and_congr Iff.rfl (forall_congr' hne)

theorem foot_sub (s : AS) (o : Oper) : ∀ id ∈ (foot Γ ops s o).ws, id ∈ (foot Γ ops s o).rs := fun _ hid => List.mem_append.2 (.inr hid)

theorem swap {o' : Oper} {s1 s2 : AS} (h1 : gop1 P Γ objs ops o s = some s1) (h2 : gop1 P Γ objs ops o' s1 = some s2) (hi : (foot Γ ops s o).indep (foot Γ ops s1 o') = true) :
    ∃ t1, gop1 P Γ objs ops o' s = some t1 ∧ gop1 P Γ objs ops o t1 = some s2 ∧ foot Γ ops s o' = foot Γ ops s1 o' ∧ foot Γ ops t1 o = foot Γ ops s o := by
  unfold Foot.indep at hi
  simp only [Bool.and_eq_true, Bool.not_eq_true'] at hi
  obtain ⟨⟨⟨⟨⟨i1, i2⟩, i3⟩, i4⟩, i5⟩, i6⟩ := hi
  obtain ⟨E, a1, w1, l1⟩ := gop1_local h1
  obtain ⟨E', a2, w2, l2⟩ := gop1_local h2
  obtain ⟨g1, g2, g3, g4⟩ := agree_of (f := foot Γ ops s o) (f' := foot Γ ops s1 o') a1 w1 (foot_sub _ _) i1 i3 i4 i5
  have hag : Agree (foot Γ ops s1 o') s1 s := ⟨fun i hi => (g1 i hi).symm, fun id hid => (g2 id hid).symm, fun id hid => by
    have := g3 id hid
    revert this
    cases s1.ent id <;> cases s.ent id <;> simp only [simO] <;> intro h <;> first | trivial | exact h | skip
    rename_i a b
    cases a <;> cases b <;> simp_all [Ent.sim], fun q hq => (g4 q hq).symm⟩
  obtain ⟨t1, k1, k2⟩ := l2 s hag
  have hf' := foot_congr hag
  have w2' : Within (foot Γ ops s1 o') s E' := ⟨fun id e hu => by
    rcases w2.up id e hu with ⟨h, hn⟩ | h
    · exact .inl ⟨h, by rw [← g2 id h]; exact hn⟩
    · exact .inr h, w2.fz⟩
  obtain ⟨m1, m2, m3, m4⟩ := agree_of (f := foot Γ ops s1 o') (f' := foot Γ ops s o) k2 w2' (foot_sub _ _) i2 i4 i3 i6
  have hag2 : Agree (foot Γ ops s o) s t1 := ⟨m1, m2, m3, m4⟩
  obtain ⟨t2, k3, k4⟩ := l1 t1 hag2
  refine ⟨t1, k1, ?_, hf', foot_congr hag2⟩
  rw [k3]
  congr 1
  -- the two orders give one state
  have hup1 : ∀ id e, E.up id = some e → E'.up id = none ∧ id ∉ E'.fz := fun id e hu => by
    rcases w1.up id e hu with ⟨h, hn⟩ | ⟨q, j, hd, rfl⟩
    · refine ⟨?_, fun hz => meets_false i3 h (w2.fz id hz)⟩
      cases hu' : E'.up id with
      | none => rfl
      | some e' =>
        rcases w2.up id e' hu' with ⟨h', _⟩ | ⟨q, j, hd, rfl⟩
        · exact absurd (foot_sub _ _ id h') (meets_false i3 h)
        · exact absurd (foot_sub _ _ _ h) (siteIn_false i6 hd j)
    · refine ⟨?_, fun hz => siteIn_false i5 hd j (w2.fz _ hz)⟩
      cases hu' : E'.up (.new q j) with
      | none => rfl
      | some e' =>
        rcases w2.up _ e' hu' with ⟨h', _⟩ | ⟨q', j', hd', he⟩
        · exact absurd (foot_sub _ _ _ h') (siteIn_false i5 hd j)
        · simp only [Id.new.injEq] at he
          obtain ⟨rfl, _⟩ := he
          exact absurd hd' (hit_false i1 hd).2
  have hup2 : ∀ id e, E'.up id = some e → E.up id = none ∧ id ∉ E.fz := fun id e hu => by
    have hn : E.up id = none := by
      cases hu1 : E.up id with
      | none => rfl
      | some e1 => rw [(hup1 id e1 hu1).1] at hu; cases hu
    refine ⟨hn, fun hz => ?_⟩
    rcases w2.up id e hu with ⟨h, _⟩ | ⟨q, j, hd, rfl⟩
    · exact meets_false i4 h (w1.fz id hz)
    · exact siteIn_false i6 hd j (w1.fz _ hz)
  refine AS.ext_of ?_ (by rw [k4.len, k2.len, a2.len, a1.len]) fun id => ?_
  · have e1 : ∀ (u u' : AS) (d : Option Tmp) (v : AVal), u.slots = u'.slots → (u.put d v).slots = (u'.put d v).slots := fun u u' d v h => by cases d <;> simp [AS.put, h]
    rw [k4.slots, a2.slots, e1 t1 (s.put o'.dst E'.v) _ _ k2.slots, e1 s1 (s.put o.dst E.v) _ _ a1.slots]
    cases hd : o.dst with
    | none => cases o'.dst <;> rfl
    | some q =>
      cases hd' : o'.dst with
      | none => rfl
      | some q' =>
        have hne : q' ≠ q := fun e => (hit_false (f := foot Γ ops s o) i1 hd).2 (by show o'.dst = some q; rw [hd', e])
        simp only [AS.put]
        exact List.set_comm _ _ hne
  · rw [k4.ent, k2.ent, a2.ent, a1.ent]
    cases hu : E.up id with
    | some e =>
      obtain ⟨h3, h4⟩ := hup1 id e hu
      simp only [h3, if_neg h4]
    | none =>
      simp only
      cases hu' : E'.up id with
      | some e =>
        obtain ⟨_, h4⟩ := hup2 id e hu'
        simp only [if_neg h4]
      | none =>
        simp only
        by_cases z1 : id ∈ E.fz <;> by_cases z2 : id ∈ E'.fz <;> simp only [if_pos, if_neg, z1, z2, not_false_eq_true]

end
end Go.Ab

/-
  Drawn regions, fifth part: every order gives the same state.
-/
namespace Go.Ab

section
variable {P : Program} {Γ : Gam} {objs : List Nat} {ops : Array Oper}

def RunL (P : Program) (Γ : Gam) (objs : List Nat) (ops : Array Oper) (fs : Nat → Foot) : List Nat → AS → AS → Prop
  | [], s, sn => s = sn
  | i :: l, s, sn => ∃ o, ops[i]? = some o ∧ foot Γ ops s o = fs i ∧ ∃ s', gop1 P Γ objs ops o s = some s' ∧ RunL P Γ objs ops fs l s' sn

theorem RunL.bubble {fs : Nat → Foot} {i : Nat} {l2 : List Nat} {sn : AS} : ∀ (l1 : List Nat) {s : AS}, RunL P Γ objs ops fs (l1 ++ i :: l2) s sn → (∀ j ∈ l1, (fs j).indep (fs i) = true) → RunL P Γ objs ops fs (i :: (l1 ++ l2)) s sn
  | [], _, h, _ => h
  | j :: l1, s, h, hi => by
    obtain ⟨oj, h1, h2, s1, h3, h4⟩ := h
    obtain ⟨oi, h5, h6, s2, h7, h8⟩ := RunL.bubble l1 h4 fun j hj => hi j (List.mem_cons_of_mem _ hj)
    have hd := hi j (List.mem_cons_self ..)
    rw [← h2, ← h6] at hd
    obtain ⟨t1, k1, k2, k3, k4⟩ := swap h3 h7 hd
    exact ⟨oi, h5, by rw [k3, h6], t1, k1, oj, h1, by rw [k4, h2], s2, k2, h8⟩

theorem gopsD_run {R : Type} {anc : List Nat} {k : AS → Option R} {r : R} : ∀ (l : List Oper) (i : Nat) (acc : List (Nat × Foot)) (s : AS) (f0 : Nat → Foot), (∀ n o, l[n]? = some o → ops[i + n]? = some o) → (∀ x ∈ acc, f0 x.1 = x.2 ∧ x.1 < i) →
    gopsD P Γ objs ops anc i l acc s k = some r → ∃ fs sn, (∀ j, j < i → fs j = f0 j) ∧ RunL P Γ objs ops fs (List.range' i l.length) s sn ∧ k sn = some r ∧
      (∀ x ∈ acc, ∀ m, i ≤ m → m < i + l.length → (anc.getD m 0).testBit x.1 = true ∨ x.2.indep (fs m) = true) ∧ (∀ m1 m2, i ≤ m1 → m1 < m2 → m2 < i + l.length → (anc.getD m2 0).testBit m1 = true ∨ (fs m1).indep (fs m2) = true)
  | [], i, acc, s, f0, _, _, h => ⟨f0, s, fun _ _ => rfl, rfl, h, fun _ _ m h1 h2 => by simp at h2; omega, fun _ _ h1 h2 h3 => by simp at h3; omega⟩
  | o :: l, i, acc, s, f0, ho, hf, h => by
    unfold gopsD at h
    split at h
    · rename_i hall
      simp only [AS.seen_eq] at h
      obtain ⟨s', h1, h2⟩ := gop_some (k := fun s' => gopsD P Γ objs ops anc (i + 1) l ((i, foot Γ ops s o) :: acc) s' k) h
      have hacc : ∀ x ∈ (i, foot Γ ops s o) :: acc, (if x.1 = i then foot Γ ops s o else f0 x.1) = x.2 ∧ x.1 < i + 1 := fun x hx => by
        rcases List.mem_cons.1 hx with rfl | hx
        · simp
        · obtain ⟨q1, q2⟩ := hf x hx
          rw [if_neg (by omega)]
          exact ⟨q1, by omega⟩
      obtain ⟨fs, sn, g1, g2, g3, g4, g5⟩ := gopsD_run l (i + 1) ((i, foot Γ ops s o) :: acc) s' (fun n => if n = i then foot Γ ops s o else f0 n)
        (fun n o' hn => by have := ho (n + 1) o' (by simpa using hn); rw [← this]; congr 1; omega) hacc h2
      have gi : fs i = foot Γ ops s o := by rw [g1 i (by omega), if_pos rfl]
      refine ⟨fs, sn, fun j hj => by rw [g1 j (by omega), if_neg (by omega)], ?_, g3, fun x hx m h3 h4 => ?_, fun m1 m2 h3 h4 h5 => ?_⟩
      · rw [List.length_cons, List.range'_succ]
        exact ⟨o, ho 0 o rfl, gi.symm, s', h1, g2⟩
      · rcases Nat.eq_or_lt_of_le h3 with rfl | h3
        · have := List.all_eq_true.1 hall x hx
          simp only [Bool.or_eq_true] at this
          rcases this with h | h
          · exact .inl h
          · right; rw [gi]; exact h
        · exact g4 x (List.mem_cons_of_mem _ hx) m (by omega) (by simp only [List.length_cons] at h4; omega)
      · rcases Nat.eq_or_lt_of_le h3 with rfl | h3
        · rw [gi]
          exact g4 (i, foot Γ ops s o) (List.mem_cons_self ..) m2 (by omega) (by simp only [List.length_cons] at h5; omega)
        · exact g5 m1 m2 (by omega) h4 (by simp only [List.length_cons] at h5; omega)
    · cases h

/-! ### What stands before an operation -/

theorem ancF_mem {acc : List Nat} {j : Nat} : ∀ {l : List Edge}, (l.foldr (fun e m => Nat.lor (Nat.lor (Nat.pow 2 e.on) (acc.getD e.on 0)) m) 0).testBit j = true → ∃ e ∈ l, j = e.on ∨ (acc.getD e.on 0).testBit j = true
  | [], h => by simp at h
  | e :: l, h => by
    rw [List.foldr_cons, show ∀ x y, Nat.lor x y = x ||| y from fun _ _ => rfl, show ∀ x y, Nat.lor x y = x ||| y from fun _ _ => rfl, Nat.testBit_or, Nat.testBit_or, show Nat.pow 2 e.on = 2 ^ e.on from rfl, Nat.testBit_two_pow] at h
    simp only [Bool.or_eq_true, decide_eq_true_eq] at h
    rcases h with (h | h) | h
    · exact ⟨e, List.mem_cons_self .., .inl h.symm⟩
    · exact ⟨e, List.mem_cons_self .., .inr h⟩
    · obtain ⟨e', h1, h2⟩ := ancF_mem h
      exact ⟨e', List.mem_cons_of_mem _ h1, h2⟩

theorem ancs_fold : ∀ (l : List Oper) (acc : List Nat), (∀ i, i < acc.length → (l.foldl (fun acc o => acc ++ [ancF acc o]) acc)[i]? = acc[i]?) ∧
    ∀ i o, l[i]? = some o → (l.foldl (fun acc o => acc ++ [ancF acc o]) acc)[acc.length + i]? = some (ancF ((l.foldl (fun acc o => acc ++ [ancF acc o]) acc).take (acc.length + i)) o)
  | [], acc => ⟨fun _ _ => rfl, fun i o h => by simp at h⟩
  | x :: l, acc => by
    obtain ⟨h1, h2⟩ := ancs_fold l (acc ++ [ancF acc x])
    simp only [List.foldl_cons]
    refine ⟨fun i hi => ?_, fun i o hi => ?_⟩
    · rw [h1 i (by simp; omega), List.getElem?_append_left hi]
    · cases i with
      | zero =>
        simp only [List.getElem?_cons_zero, Option.some.injEq] at hi
        subst hi
        rw [Nat.add_zero, h1 _ (by simp)]
        have : (l.foldl (fun acc o => acc ++ [ancF acc o]) (acc ++ [ancF acc x])).take acc.length = acc := by
          apply List.ext_getElem?
          intro j
          rw [List.getElem?_take]
          split
          · rename_i hj
            rw [h1 j (by simp; omega), List.getElem?_append_left hj]
          · rename_i hj
            rw [List.getElem?_eq_none (by omega)]
        rw [this]
        simp
      | succ i =>
        have := h2 i o (by simpa using hi)
        simp only [List.length_append, List.length_cons, List.length_nil, Nat.zero_add] at this
        rw [show acc.length + (i + 1) = acc.length + 1 + i by omega]
        exact this

theorem ancs_mem {l : List Oper} {i : Nat} {o : Oper} (hi : l[i]? = some o) {j : Nat} (hj : ((ancs l).getD i 0).testBit j = true) : ∃ e ∈ o.after.toList, Region.binds .any e = true ∧ (j = e.on ∨ ((ancs l).getD e.on 0).testBit j = true) := by
  have h := (ancs_fold l []).2 i o hi
  have e : ancs l = l.foldl (fun acc o => acc ++ [ancF acc o]) [] := rfl
  rw [← e] at h
  simp only [List.length_nil, Nat.zero_add] at h
  rw [List.getD_eq_getElem?_getD, h] at hj
  obtain ⟨e, h1, h3⟩ := ancF_mem hj
  obtain ⟨h1, h2⟩ := List.mem_filter.1 h1
  refine ⟨e, h1, h2, h3.imp id fun h4 => ?_⟩
  rw [List.getD_eq_getElem?_getD, List.getElem?_take] at h4
  split at h4
  · rw [List.getD_eq_getElem?_getD]; exact h4
  · simp at h4

/-! ### Orders -/

def unl (n : Nat) (listed : Array Bool) : List Nat := (List.range n).filter fun i => !listed.getD i true

theorem mem_unl {n : Nat} {listed : Array Bool} {i : Nat} : i ∈ unl n listed ↔ i < n ∧ listed.getD i true = false := by simp [unl]

theorem unl_sorted (n : Nat) (listed : Array Bool) : (unl n listed).Pairwise (· < ·) := (List.pairwise_lt_range).filter _

theorem getD_set {listed : Array Bool} {i j : Nat} (d : Bool) (hi : i < listed.size) : (listed.setIfInBounds i true).getD j d = if j = i then true else listed.getD j d := by
  simp only [Array.getD_eq_getD_getElem?, Array.getElem?_setIfInBounds]
  by_cases h : i = j
  · subst h; simp [hi]
  · simp [h, Ne.symm h]

theorem unl_set {listed : Array Bool} {i : Nat} (hi : i < listed.size) {l1 l2 : List Nat} (h : unl listed.size listed = l1 ++ i :: l2) : unl listed.size (listed.setIfInBounds i true) = l1 ++ l2 := by
  have hs := unl_sorted listed.size listed
  rw [h] at hs
  obtain ⟨p1, p2, p3⟩ := List.pairwise_append.1 hs
  obtain ⟨p4, _⟩ := List.pairwise_cons.1 p2
  have e : unl listed.size (listed.setIfInBounds i true) = (unl listed.size listed).filter fun j => decide (j ≠ i) := by
    unfold unl
    rw [List.filter_filter]
    refine List.filter_congr fun j _ => ?_
    rw [getD_set true hi]
    by_cases hj : j = i
    · simp [hj]
    · simp [hj]
  rw [e, h, List.filter_append, List.filter_cons]
  have f1 : l1.filter (fun j => decide (j ≠ i)) = l1 := List.filter_eq_self.2 fun j hj => by
    have := p3 j hj i (List.mem_cons_self ..)
    simp; omega
  have f2 : l2.filter (fun j => decide (j ≠ i)) = l2 := List.filter_eq_self.2 fun j hj => by
    have := p4 j hj
    simp; omega
  rw [f1, f2]
  simp

theorem any_order {C : Ctx} (hΓ : Sound P Γ) {fs : Nat → Foot} {sn : AS} {Q : Exit → Act → World → Prop} (hE : edgesOk ops.toList = true)
    (hind : ∀ m1 m2, m1 < m2 → m2 < ops.size → ((ancs ops.toList).getD m2 0).testBit m1 = true ∨ (fs m1).indep (fs m2) = true) (hQ : ∀ a w, Sts C sn a w → Q .normal a w) :
    ∀ (fuel : Nat) (listed : Array Bool) (s : AS) (a : Act) (w : World), listed.size = ops.size → (unl ops.size listed).length = fuel →
      (∀ i, i < ops.size → listed.getD i true = true → ∀ j, ((ancs ops.toList).getD i 0).testBit j = true → listed.getD j false = true) → RunL P Γ objs ops fs (unl ops.size listed) s sn → Sts C s a w → wpAny P .any ops Q fuel listed a w := by
  have hedge : ∀ i o, ops[i]? = some o → ∀ e ∈ o.after.toList, Region.binds .any e = true → e.on < i := fun i o hi e he hb => by
    have := List.all_eq_true.1 hE (o, i) (List.mem_zipIdx_iff_getElem?.2 (by simpa using hi))
    have := List.all_eq_true.1 this e he
    simpa [hb] using this
  have hrdy : ∀ (listed : Array Bool), listed.size = ops.size → ∀ i, i ∈ Region.ready .any ops listed ↔ i ∈ unl ops.size listed ∧ ∀ o, ops[i]? = some o → ∀ e ∈ o.after.toList, Region.binds .any e = true → listed.getD e.on false = true := fun listed _ i => by
    rw [mem_unl]
    unfold Region.ready
    simp only [List.mem_filter, List.mem_range, Bool.and_eq_true, Bool.not_eq_true']
    constructor
    · rintro ⟨h1, h2, h3⟩
      refine ⟨⟨h1, h2⟩, fun o ho e he hb => ?_⟩
      rw [ho] at h3
      simp only [Option.map_some, Option.getD_some, Array.all_eq_true', Bool.or_eq_true, Bool.not_eq_true'] at h3
      rcases h3 e (by simpa using he) with h | h
      · rw [hb] at h; cases h
      · exact h
    · rintro ⟨⟨h1, h2⟩, h3⟩
      refine ⟨h1, h2, ?_⟩
      obtain ⟨o, ho⟩ : ∃ o, ops[i]? = some o := ⟨ops[i], by simp [h1]⟩
      rw [ho]
      simp only [Option.map_some, Option.getD_some, Array.all_eq_true', Bool.or_eq_true, Bool.not_eq_true']
      intro e he
      cases hb : Region.binds .any e with
      | false => exact .inl rfl
      | true => exact .inr (h3 o ho e (by simpa using he) hb)
  have hsome : ∀ (listed : Array Bool), listed.size = ops.size → Region.ready .any ops listed = [] → unl ops.size listed = [] := fun listed hs hr => by
    cases hu : unl ops.size listed with
    | nil => rfl
    | cons i l =>
      exfalso
      have hi : i ∈ unl ops.size listed := by rw [hu]; exact List.mem_cons_self ..
      have hso := unl_sorted ops.size listed
      rw [hu] at hso
      have : i ∈ Region.ready .any ops listed := (hrdy listed hs i).2 ⟨hi, fun o ho e he hb => by
        have hlt := hedge i o ho e he hb
        have hin := (mem_unl.1 hi).1
        cases hl : listed.getD e.on true with
        | false =>
          have hm : e.on ∈ unl ops.size listed := mem_unl.2 ⟨by omega, hl⟩
          rw [hu] at hm
          rcases List.mem_cons.1 hm with h | h
          · omega
          · have := (List.pairwise_cons.1 hso).1 _ h; omega
        | true =>
          have : e.on < listed.size := by omega
          simp only [Array.getD_eq_getD_getElem?, Array.getElem?_eq_getElem this, Option.getD_some] at hl ⊢
          exact hl⟩
      rw [hr] at this
      cases this
  intro fuel
  induction fuel with
  | zero =>
    intro listed s a w hs hl _ hr hst
    have hn : unl ops.size listed = [] := List.eq_nil_of_length_eq_zero hl
    refine ⟨?_, ?_⟩
    · cases hre : Region.ready .any ops listed with
      | nil => rfl
      | cons i l =>
        have : i ∈ Region.ready .any ops listed := by rw [hre]; exact List.mem_cons_self ..
        have := ((hrdy listed hs i).1 this).1
        rw [hn] at this; cases this
    · rw [hn] at hr
      have : s = sn := hr
      subst this
      exact hQ a w hst
  | succ fuel ih =>
    intro listed s a w hs hl hcl hr hst
    refine ⟨fun hre => ?_, fun i hi => ?_⟩
    · have := hsome listed hs hre
      rw [this] at hl; simp at hl
    · obtain ⟨hu, hdep⟩ := (hrdy listed hs i).1 hi
      obtain ⟨hin, hli⟩ := mem_unl.1 hu
      obtain ⟨o, ho⟩ : ∃ o, ops[i]? = some o := ⟨ops[i], by simp [hin]⟩
      obtain ⟨l1, l2, hsp⟩ := List.append_of_mem hu
      have hso := unl_sorted ops.size listed
      rw [hsp] at hso
      have hanc : ∀ j, ((ancs ops.toList).getD i 0).testBit j = true → listed.getD j false = true := fun j hj => by
        obtain ⟨e, he, hb, h | h⟩ := ancs_mem (by simpa using ho) hj
        · rw [h]; exact hdep o ho e he hb
        · have h1 := hdep o ho e he hb
          have h2 := hedge i o ho e he hb
          refine hcl e.on (by omega) ?_ j h
          have : e.on < listed.size := by omega
          simp only [Array.getD_eq_getD_getElem?, Array.getElem?_eq_getElem this, Option.getD_some] at h1 ⊢
          exact h1
      rw [hsp] at hr
      have hb := RunL.bubble l1 hr fun j hj => by
        have hlt : j < i := (List.pairwise_append.1 hso).2.2 j hj i (List.mem_cons_self ..)
        rcases hind j i hlt hin with h | h
        · have h1 := hanc j h
          have hju : j ∈ unl ops.size listed := by rw [hsp]; exact List.mem_append.2 (.inl hj)
          have h2 := (mem_unl.1 hju).2
          have : j < listed.size := by omega
          simp only [Array.getD_eq_getD_getElem?, Array.getElem?_eq_getElem this, Option.getD_some] at h1 h2
          rw [h1] at h2; cases h2
        · exact h
      obtain ⟨o', ho', hf, s', hg, hrun⟩ := hb
      obtain rfl : o = o' := by rw [ho] at ho'; simpa using ho'
      have hset : unl ops.size (listed.setIfInBounds i true) = l1 ++ l2 := by
        rw [← hs] at hsp ⊢
        exact unl_set (by omega) hsp
      refine ((gop1_runs hΓ hst hg).mono fun a' w' hst' => ih (listed.setIfInBounds i true) s' a' w' (by simpa using hs) ?_ ?_ (by rw [hset]; exact hrun) hst').wpOp ho
      · rw [hset]
        rw [hsp] at hl
        simp only [List.length_append, List.length_cons] at hl ⊢
        omega
      · intro m hm hlm j hj
        rw [getD_set false (by omega)]
        split
        · rfl
        · rw [getD_set true (by omega)] at hlm
          split at hlm
          · rename_i hmi
            subst hmi
            exact hanc j hj
          · exact hcl m hm hlm j hj

theorem region_draw {C : Ctx} (hm : P.follows .mixedOrders = true) (hΓ : Sound P Γ) {id : Nat} {R : Type} {Q : Exit → Act → World → Prop} {s : AS} {a : Act} {w : World} {k : AS → Option R} {r : R} (h : Sts C s a w) (hE : edgesOk ops.toList = true)
    (he : gopsD P Γ objs ops (ancs ops.toList) 0 ops.toList [] s k = some r) (hk : ∀ s' a' w', Sts C s' a' w' → k s' = some r → Q .normal a' w') : (Code.region id ops true).wp P Q a w := by
  obtain ⟨fs, sn, _, g2, g3, _, g5⟩ := gopsD_run ops.toList 0 [] s (fun _ => ⟨none, [], [], []⟩) (fun n o hn => by simpa using hn) (fun _ hx => by cases hx) he
  refine wp_region_any hm ?_
  obtain ⟨g, β, h⟩ := h
  have hu : unl ops.size (Array.replicate ops.size false) = List.range' 0 ops.toList.length := by
    unfold unl
    rw [List.filter_eq_self.2]
    · simp [List.range_eq_range']
    · intro i hi
      have hi : i < ops.size := by simpa using hi
      simp [Array.getD_eq_getD_getElem?, hi]
  refine any_order (objs := objs) hΓ hE (fs := fs) (sn := sn) (fun m1 m2 h1 h2 => g5 m1 m2 (Nat.zero_le _) h1 (by simpa using h2)) (fun a' w' hs => hk sn a' w' hs g3) ops.size _ s a _ (by simp) (by rw [hu]; simp) (fun i hi hl => ?_) (by rw [hu]; exact g2) ⟨g, β, h.drew⟩
  simp [Array.getD_eq_getD_getElem?, hi] at hl

end
end Go.Ab

/-
  Loops' heads: what is kept of a state; results; what a function leaves.
-/
namespace Go.Ab

theorem ren_same {ρ : Ren} : ∀ (v : AVal), (∀ id ∈ v.ids, ∀ ver, ρ id ver = some (id, ver)) → v.ren ρ = v
  | .ptr id ver p n, h => by simp only [AVal.ren]; rw [h id (by simp [AVal.ids])]
  | .sref id ver p c i len, h => by simp only [AVal.ren]; rw [h id (by simp [AVal.ids])]
  | .pr a b, h => by simp only [AVal.ren]; rw [ren_same a fun id hid => h id (by simp [AVal.ids, hid]), ren_same b fun id hid => h id (by simp [AVal.ids, hid])]
  | .cons a b, h => by simp only [AVal.ren]; rw [ren_same a fun id hid => h id (by simp [AVal.ids, hid]), ren_same b fun id hid => h id (by simp [AVal.ids, hid])]
  | .fn f c, h => by simp only [AVal.ren]; rw [ren_same c fun id hid => h id (by simpa [AVal.ids] using hid)]
  | .bx e c, h => by simp only [AVal.ren]; rw [ren_same c fun id hid => h id (by simpa [AVal.ids] using hid)]
  | .undef, _ | .gone, _ | .nils, _ | .nilp, _ | .nilf, _ | .nilm, _ | .d _ _, _ | .rptr _ _, _ | .nil, _ | .vec .., _ | .sb _, _ => rfl

theorem there_ids {s : AS} : ∀ (v : AVal), v.there s = true → ∀ id ∈ v.ids, (s.obj id).isSome = true
  | .ptr id ver p n, h, i, hi => by simp only [AVal.ids, List.mem_singleton] at hi; subst hi; exact h
  | .sref id ver p c j len, h, i, hi => by simp only [AVal.ids, List.mem_singleton] at hi; subst hi; exact h
  | .pr a b, h, i, hi => by
    simp only [AVal.there, Bool.and_eq_true] at h
    simp only [AVal.ids, List.mem_append] at hi
    rcases hi with hi | hi
    · exact there_ids a h.1 i hi
    · exact there_ids b h.2 i hi
  | .cons a b, h, i, hi => by
    simp only [AVal.there, Bool.and_eq_true] at h
    simp only [AVal.ids, List.mem_append] at hi
    rcases hi with hi | hi
    · exact there_ids a h.1 i hi
    · exact there_ids b h.2 i hi
  | .fn f c, h, i, hi => there_ids c h i hi
  | .bx e c, h, i, hi => there_ids c h i hi
  | .undef, _, _, hi | .gone, _, _, hi | .nils, _, _, hi | .nilp, _, _, hi | .nilf, _, _, hi | .nilm, _, _, hi | .d _ _, _, _, hi | .rptr _ _, _, _, hi | .nil, _, _, hi | .vec .., _, _, hi | .sb _, _, _, hi => by cases hi

theorem noRef_ids {x : Id} : ∀ (v : AVal), v.noRef x = true → x ∉ v.ids
  | .ptr id ver p n, h, hi => by simp only [AVal.ids, List.mem_singleton] at hi; simp [AVal.noRef, hi] at h
  | .sref id ver p c j len, h, hi => by simp only [AVal.ids, List.mem_singleton] at hi; simp [AVal.noRef, hi] at h
  | .pr a b, h, hi => by
    simp only [AVal.noRef, Bool.and_eq_true] at h
    simp only [AVal.ids, List.mem_append] at hi
    rcases hi with hi | hi
    · exact noRef_ids a h.1 hi
    · exact noRef_ids b h.2 hi
  | .cons a b, h, hi => by
    simp only [AVal.noRef, Bool.and_eq_true] at h
    simp only [AVal.ids, List.mem_append] at hi
    rcases hi with hi | hi
    · exact noRef_ids a h.1 hi
    · exact noRef_ids b h.2 hi
  | .fn f c, h, hi => noRef_ids c h hi
  | .bx e c, h, hi => noRef_ids c h hi
  | .undef, _, hi | .gone, _, hi | .nils, _, hi | .nilp, _, hi | .nilf, _, hi | .nilm, _, hi | .d _ _, _, hi | .rptr _ _, _, hi | .nil, _, hi | .vec .., _, hi | .sb _, _, hi => by cases hi

section
variable {P : Program} {C : Ctx} {g : Nat → Lab} {β : Id → Option Pl} {s : AS} {a : Act} {w : World}

/-- A state that knows less, of objects that may bear other names. -/
theorem Inv.renamedTo (h : Inv C g β s a w) (hC : ∀ i j, C.E.s (.new i j) = none) {s1 : AS} {g1 : Nat → Lab} {β1 : Id → Option Pl} (ρ : Ren) (hlen : s1.slots.length = s.slots.length) (ht : Trans w w g g1) (hle : RenLe ρ (s.env w g β) (s1.env w g1 β1))
    (hslot : ∀ i, VS (s1.env w g1 β1) (s1.slot i) (a.tmps.getD i undef))
    (hent : ∀ id ver fr c, s1.ent id = some (.obj ver fr c) → ∃ id0 v0 c0, s.ent id0 = some (.obj v0 fr c0) ∧ c0.ren ρ = c ∧ β1 id = β id0 ∧ ∀ pl, β id0 = some pl → (∀ k, g pl.b = .own (.id id0) k → g1 pl.b = .own (.id id) k) ∧ (g pl.b = .free → g1 pl.b = .free))
    (hold : ∀ k, (s.ent (.old k) ≠ none → s1.ent (.old k) ≠ none) ∧ (∀ v fr c, s1.ent (.old k) = some (.obj v fr c) → ∃ c0, s.ent (.old k) = some (.obj v fr c0)) ∧ β1 (.old k) = β (.old k)) : Inv C g1 β1 s1 a w := by
  refine ⟨h.defers, by rw [hlen]; exact h.size, hslot, fun id ver fr c hid => ?_, h.trans.trans ht, ?_⟩
  · obtain ⟨id0, v0, c0, h1, h2, h3, h4⟩ := hent id ver fr c hid
    have := ObjR_ren hle (h.objs id0 v0 fr c0 h1) (id' := id) h3 fun pl hp => ⟨rfl, (h4 pl hp).1, (h4 pl hp).2⟩
    rw [h2] at this
    exact this
  · have hl := h.le
    have ho : ∀ id ver, C.E.bnd id ver → ∃ k, id = .old k := fun id ver hb => by
      cases id with
      | old k => exact ⟨k, rfl⟩
      | new i j => exact absurd (hC i j) hb.1
    refine ⟨hl.mem.trans (Trans.mem (E := s.env w g β) (E' := s1.env w g1 β1) ht), fun id ver hb => ?_, fun id ver hb hc => ?_⟩
    · obtain ⟨k, rfl⟩ := ho id ver hb
      obtain ⟨h1, h2⟩ := hl.bnd _ ver hb
      obtain ⟨e1, e2, _⟩ := hold k
      exact ⟨e1 h1, fun v fr c hh => let ⟨c0, hc0⟩ := e2 v fr c hh; h2 v fr c0 hc0⟩
    · obtain ⟨k, rfl⟩ := ho id ver hb
      obtain ⟨fr, c, hc⟩ := hc
      obtain ⟨_, e2, e3⟩ := hold k
      obtain ⟨c0, hc0⟩ := e2 _ _ _ hc
      obtain ⟨h1, h2⟩ := hl.cur _ ver hb ⟨fr, c0, hc0⟩
      exact ⟨h1, e3.trans h2⟩

/-- A state that knows less. -/
theorem Inv.renamed (h : Inv C g β s a w) (hC : ∀ i j, C.E.s (.new i j) = none) {s1 : AS} {β1 : Id → Option Pl} (ρ : Ren) (hlen : s1.slots.length = s.slots.length) (hle : RenLe ρ (s.env w g β) (s1.env w g β1))
    (hslot : ∀ i, VS (s1.env w g β1) (s1.slot i) (a.tmps.getD i undef)) (hent : ∀ id ver fr c, s1.ent id = some (.obj ver fr c) → ∃ v0, s.ent id = some (.obj v0 fr c) ∧ c.ren ρ = c ∧ β1 id = β id)
    (hold : ∀ k, s1.ent (.old k) = s.ent (.old k) ∧ β1 (.old k) = β (.old k)) : Inv C g β1 s1 a w :=
  h.renamedTo hC ρ hlen (Trans.refl w g) hle hslot (fun id ver fr c hid => let ⟨v0, h1, h2, h3⟩ := hent id ver fr c hid; ⟨id, v0, c, h1, h2, h3, fun _ _ => ⟨fun _ h => h, fun h => h⟩⟩)
    fun k => ⟨fun hh => by rw [(hold k).1]; exact hh, fun v fr c hh => ⟨c, (hold k).1.symm.trans hh⟩, (hold k).2⟩

/-- Another word for what a slot holds. -/
theorem Inv.see (h : Inv C g β s a w) (j : Nat) {v : AVal} (hv : VS (s.env w g β) v (a.tmps.getD j undef)) : Inv C g β (s.put (some j) v) a w := by
  refine ⟨h.defers, by simpa [AS.put] using h.size, fun i => ?_, by simpa using h.objs, h.trans, by simpa using h.le⟩
  rw [env_put, slot_put]
  split
  · rename_i hij; rw [hij.1]; exact hv
  · exact h.slots i

theorem slot_keep (keep : List Nat) : ∀ (l : List AVal) (n i : Nat), (keepSlots keep n l).getD i .undef = .undef ∨ (keepSlots keep n l).getD i .undef = l.getD i .undef
  | [], n, i => by simp [keepSlots]
  | v :: l, n, 0 => by
    simp only [keepSlots, List.getD_cons_zero]
    split
    · exact .inr rfl
    · exact .inl rfl
  | v :: l, n, i + 1 => by
    simp only [keepSlots, List.getD_cons_succ]
    exact slot_keep keep l (n + 1) i

theorem len_keepSlots (keep : List Nat) : ∀ (l : List AVal) (n : Nat), (keepSlots keep n l).length = l.length
  | [], n => rfl
  | v :: l, n => by simp [keepSlots, len_keepSlots keep l]

theorem site_keep (keep : List Nat) : ∀ (l : List (List Ent)) (n i : Nat), (keepSites keep n l).getD i [] = [] ∨ (keepSites keep n l).getD i [] = l.getD i []
  | [], n, i => by simp [keepSites]
  | v :: l, n, 0 => by
    simp only [keepSites, List.getD_cons_zero]
    split
    · exact .inr rfl
    · exact .inl rfl
  | v :: l, n, i + 1 => by
    simp only [keepSites, List.getD_cons_succ]
    exact site_keep keep l (n + 1) i

theorem mem_slots {s : AS} (i : Nat) : s.slot i = .undef ∨ s.slot i ∈ s.slots := by
  unfold AS.slot
  rw [List.getD_eq_getElem?_getD]
  cases h : s.slots[i]? with
  | none => exact .inl rfl
  | some v => exact .inr (List.mem_of_getElem? h)

theorem ent_mem {s : AS} {id : Id} {e : Ent} (h : s.ent id = some e) : e ∈ s.olds ∨ ∃ es ∈ s.news, e ∈ es := by
  cases id with
  | old k => exact .inl (List.mem_of_getElem? h)
  | new i j =>
    simp only [AS.ent, List.getD_eq_getElem?_getD] at h
    cases hi : s.news[i]? with
    | none => rw [hi] at h; simp at h
    | some es => rw [hi] at h; exact .inr ⟨es, List.mem_of_getElem? hi, List.mem_of_getElem? h⟩

/-- Does all that is kept go to objects that are kept? -/
theorem Inv.keep (h : Inv C g β s a w) (hC : ∀ i j, C.E.s (.new i j) = none) {an : LoopAnn} (ht : (keepOnly an s).allThere = true) : Inv C g β (keepOnly an s) a w := by
  obtain ⟨ks, kt, _, _, _⟩ := an
  obtain ⟨s1, hs1⟩ : ∃ s1 : AS, s1 = { slots := keepSlots ks 0 s.slots, olds := s.olds, news := keepSites kt 0 s.news } := ⟨_, rfl⟩
  have e1 : s1.slots = keepSlots ks 0 s.slots := by rw [hs1]
  have e2 : s1.olds = s.olds := by rw [hs1]
  have e3 : s1.news = keepSites kt 0 s.news := by rw [hs1]
  have ht : (s1.slots.all (AVal.there s1) && s1.olds.all (Ent.there s1) && s1.news.all fun es => es.all (Ent.there s1)) = true := by rw [hs1]; exact ht
  show Inv C g β { slots := keepSlots ks 0 s.slots, olds := s.olds, news := keepSites kt 0 s.news } a w
  rw [← hs1]
  rw [Bool.and_eq_true, Bool.and_eq_true] at ht
  obtain ⟨⟨t1, t2⟩, t3⟩ := ht
  have hent : ∀ id, s1.ent id = none ∨ s1.ent id = s.ent id := fun id => by
    cases id with
    | old k => right; simp only [AS.ent, e2]
    | new i j =>
      simp only [AS.ent, e3]
      rcases site_keep kt s.news 0 i with h | h
      · rw [h]; exact .inl rfl
      · rw [h]; exact .inr rfl
  have hobj : ∀ id, (s1.obj id).isSome = true → s1.ent id = s.ent id := fun id hi => by
    rcases hent id with h | h
    · simp [AS.obj, h] at hi
    · exact h
  let ρ : Ren := fun id ver => if (s1.obj id).isSome = true then some (id, ver) else none
  have hρ : ∀ v : AVal, v.there s1 = true → v.ren ρ = v := fun v hv => ren_same v fun id hid ver => if_pos (there_ids v hv id hid)
  have hle : RenLe ρ (s.env w g β) (s1.env w g β) := by
    refine ⟨⟨fun _ _ _ h => h, fun _ _ h h' => ⟨h, h'⟩⟩, fun id ver r hr hb => ?_⟩
    by_cases hi : (s1.obj id).isSome = true
    · have : ρ id ver = some (id, ver) := if_pos hi
      rw [this, Option.some.injEq] at hr
      subst hr
      have e := hobj id hi
      obtain ⟨b1, b2⟩ := hb
      exact ⟨⟨by show s1.ent id ≠ none; rw [e]; exact b1, fun v fr c hh => b2 v fr c (e.symm.trans hh)⟩, fun ⟨fr, c, hc⟩ => ⟨⟨fr, c, e.symm.trans hc⟩, rfl⟩⟩
    · have : ρ id ver = none := if_neg hi
      rw [this] at hr; cases hr
  refine h.renamed hC ρ (by rw [e1, len_keepSlots]) hle (fun i => ?_) (fun id ver fr c hid => ?_) fun k => ⟨by simp only [AS.ent, e2], rfl⟩
  · rcases mem_slots (s := s1) i with hi | hi
    · rw [hi]; exact VS.undef
    · have hth := List.all_eq_true.1 t1 _ hi
      rcases slot_keep ks s.slots 0 i with h1 | h1
      · have : s1.slot i = .undef := by simp only [AS.slot, e1, h1]
        rw [this]; exact VS.undef
      · have : s1.slot i = s.slot i := by simp only [AS.slot, e1, h1]
        have hv := VS_ren hle (h.slots i)
        rw [← this, hρ _ hth] at hv
        exact hv
  · have : s1.ent id = s.ent id := by
      rcases hent id with h | h
      · rw [h] at hid; cases hid
      · exact h
    have hc : c.there s1 = true := by
      rcases ent_mem hid with h | ⟨es, h1, h2⟩
      · exact List.all_eq_true.1 t2 _ h
      · exact List.all_eq_true.1 (List.all_eq_true.1 t3 _ h1) _ h2
    exact ⟨ver, this.symm.trans hid, hρ c hc, rfl⟩

theorem Inv.drop (h : Inv C g β s a w) (ks : List Nat) : Inv C g β (s.drop ks) a w := by
  refine ⟨h.defers, by simpa [AS.drop, len_keepSlots] using h.size, fun i => ?_, h.objs, h.trans, h.le⟩
  rcases slot_keep ks s.slots 0 i with h1 | h1
  · have : (s.drop ks).slot i = .undef := h1
    rw [this]; exact VS.undef
  · have : (s.drop ks).slot i = s.slot i := h1
    rw [this]; exact h.slots i

def relabL (i i' : Id) : Lab → Lab
  | .own (.id x) k => if x = i then .own (.id i') k else .own (.id x) k
  | l => l
theorem Trans.relab (w : World) (g : Nat → Lab) (i i' : Id) : Trans w w g fun b => relabL i i' (g b) := by
  refine ⟨rfl, rfl, rfl, Nat.le_refl _, fun b _ => ?_⟩
  cases hg : g b with
  | free => exact ⟨by simp [relabL], rfl⟩
  | own o k => cases o with
    | foreign => exact ⟨by simp [relabL], rfl⟩
    | id x =>
      refine ⟨.inr ?_, fun _ _ _ h => h⟩
      simp only [relabL]
      split
      · exact ⟨_, _, rfl, Nat.le_refl _⟩
      · exact ⟨_, _, rfl, Nat.le_refl _⟩

theorem slot_map (f : AVal → AVal) (hf : f .undef = .undef) (l : List AVal) (i : Nat) : (l.map f).getD i .undef = f (l.getD i .undef) := by
  simp only [List.getD_eq_getElem?_getD, List.getElem?_map]
  cases l[i]? <;> simp [hf]

theorem Inv.renum (h : Inv C g β s a w) (hC : ∀ i j, C.E.s (.new i j) = none) {b v q : Nat} {fr : Bool} {c : AVal} (hob : s.obj (.new b 0) = some (v, fr, c)) (hm : s.movable q b = true) :
    ∃ g1 β1, Inv C g1 β1 (s.renum b v q fr c) a w := by
  have hent := obj_some hob
  unfold AS.movable at hm
  simp only [Bool.and_eq_true, Bool.or_eq_true, decide_eq_true_eq] at hm
  obtain ⟨hsb, hsq⟩ := hm
  have hone : ∀ x, single s.news[x]? = true → x < s.news.length ∧ ∀ j', s.ent (.new x (j' + 1)) = none := fun x hx => by
    unfold single at hx
    split at hx
    · rename_i y hy; exact ⟨(List.getElem?_eq_some_iff.1 hy).1, fun j' => by simp [AS.ent, List.getD_eq_getElem?_getD, hy]⟩
    · cases hx
  obtain ⟨hbl, hb1⟩ := hone b hsb
  have hq : q < s.news.length ∧ ∀ j', s.ent (.new q (j' + 1)) = none := by
    rcases hsq with (hsq | hsq) | hsq
    · subst hsq; exact ⟨hbl, hb1⟩
    · exact hone q hsq
    · exact ⟨(virgin_ent hsq).2, fun j' => (virgin_ent hsq).1 _⟩
  obtain ⟨hql, hq1⟩ := hq
  let ρ : Ren := renTo (.new b 0) v q
  let s1 := s.renum b v q fr c
  have hself : ∀ j', s1.ent (.new q j') = [Ent.obj 0 fr (c.ren ρ)][j']? := fun j' => by
    simp [s1, AS.renum, AS.ent, List.getD_eq_getElem?_getD, hql, ρ]
  have hgone : b ≠ q → ∀ j', s1.ent (.new b j') = none := fun hbq j' => by
    have hbq' : ¬ q = b := fun e => hbq e.symm
    simp only [s1, AS.renum, AS.ent, List.getD_eq_getElem?_getD]
    rw [List.getElem?_set_ne hbq', List.getElem?_set, if_pos rfl]
    split <;> simp
  have hoth : ∀ i, (∀ j', i ≠ .new q j') → (∀ j', i ≠ .new b j') → s1.ent i = (s.ent i).map (Ent.ren ρ) := fun i hi hi' => by
    cases i with
    | old k => simp [s1, AS.renum, AS.ent, ρ]
    | new x y =>
      have h1 : ¬ q = x := fun e => hi y (by rw [e])
      have h2 : ¬ b = x := fun e => hi' y (by rw [e])
      simp only [s1, AS.renum, AS.ent, List.getD_eq_getElem?_getD]
      rw [List.getElem?_set_ne h1, List.getElem?_set_ne h2, List.getElem?_map]
      cases s.news[x]? <;> simp [ρ]
  let g1 : Nat → Lab := fun x => relabL (.new b 0) (.new q 0) (g x)
  let β1 : Id → Option Pl := fun i => if i = .new q 0 then β (.new b 0) else β i
  have ht : Trans w w g g1 := Trans.relab w g _ _
  have hρ : ∀ i ver r, ρ i ver = some r → (i = .new b 0 ∧ ver = v ∧ r = (.new q 0, 0)) ∨ (i ≠ .new b 0 ∧ i ≠ .new q 0 ∧ r = (i, ver)) := fun i ver r hr => by
    have hr : renTo (.new b 0) v q i ver = some r := hr
    unfold renTo at hr
    split at hr
    · rename_i hi
      have hi : i = .new b 0 := by simpa using hi
      split at hr
      · rename_i hv
        exact .inl ⟨hi, by simpa using hv, (Option.some.inj hr).symm⟩
      · cases hr
    · rename_i hi
      have hi : ¬ i = .new b 0 := by simpa using hi
      split at hr
      · cases hr
      · rename_i hi'
        have hi' : ¬ i = .new q 0 := by simpa using hi'
        exact .inr ⟨hi, hi', (Option.some.inj hr).symm⟩
  have hle : RenLe ρ (s.env w g β) (s1.env w g1 β1) := by
    refine ⟨Trans.mem (E := s.env w g β) (E' := s1.env w g1 β1) ht, fun i ver r hr hbd => ?_⟩
    rcases hρ i ver r hr with ⟨rfl, rfl, rfl⟩ | ⟨hi, hi', rfl⟩
    · refine ⟨⟨by show s1.ent (.new q 0) ≠ none; rw [hself]; simp, fun _ _ _ _ => Nat.zero_le _⟩, fun _ => ⟨⟨fr, c, hent⟩, if_pos rfl⟩⟩
    · obtain ⟨k1, k2⟩ := hbd
      have k1 : s.ent i ≠ none := k1
      have e : s1.ent i = (s.ent i).map (Ent.ren ρ) := hoth i (fun j' e => by
          cases j' with
          | zero => exact hi' e
          | succ j' => exact k1 (by rw [e]; exact hq1 j')) (fun j' e => by
          cases j' with
          | zero => exact hi e
          | succ j' => exact k1 (by rw [e]; exact hb1 j'))
      have back : ∀ v' fr' c', s1.ent i = some (.obj v' fr' c') → ∃ c0, s.ent i = some (.obj v' fr' c0) := fun v' fr' c' hh => by
        rw [e] at hh
        cases hs : s.ent i with
        | none => exact absurd hs k1
        | some en =>
          rw [hs] at hh
          cases en with
          | dead => simp [Ent.ren] at hh
          | obj v0 fr0 c0 =>
            simp only [Option.map_some, Ent.ren, Option.some.injEq, Ent.obj.injEq] at hh
            obtain ⟨rfl, rfl, _⟩ := hh
            exact ⟨c0, rfl⟩
      refine ⟨⟨by
        show s1.ent i ≠ none
        rw [e]
        cases hs : s.ent i with
        | none => exact absurd hs k1
        | some en => simp, fun v' fr' c' hh => ?_⟩, fun ⟨fr', c', hh⟩ => ?_⟩
      · obtain ⟨c0, hc0⟩ := back v' fr' c' hh
        exact k2 v' fr' c0 hc0
      · obtain ⟨c0, hc0⟩ := back ver fr' c' hh
        exact ⟨⟨fr', c0, hc0⟩, if_neg hi'⟩
  refine ⟨g1, β1, h.renamedTo hC ρ (by simp [AS.renum]) ht hle (fun i => ?_) (fun id ver fr' c' hid => ?_) fun k => ⟨fun hk => ?_, fun v' fr' c' hh => ?_, if_neg (by simp)⟩⟩
  · have : (s.renum b v q fr c).slot i = (s.slot i).ren ρ := slot_map _ rfl _ _
    rw [this]
    exact VS_ren hle (h.slots i)
  · have hid : s1.ent id = some (.obj ver fr' c') := hid
    by_cases hi : ∃ j', id = .new q j'
    · obtain ⟨j', rfl⟩ := hi
      rw [hself] at hid
      cases j' with
      | zero =>
        simp only [List.getElem?_cons_zero, Option.some.injEq, Ent.obj.injEq] at hid
        obtain ⟨_, rfl, rfl⟩ := hid
        exact ⟨.new b 0, v, c, hent, rfl, if_pos rfl, fun pl hp => ⟨fun k hk => by simp [g1, hk, relabL], fun hk => by simp [g1, hk, relabL]⟩⟩
      | succ j' => simp at hid
    · by_cases hi' : ∃ j', id = .new b j'
      · obtain ⟨j', rfl⟩ := hi'
        have hbq : b ≠ q := fun e => hi ⟨j', by rw [e]⟩
        rw [hgone hbq] at hid; cases hid
      · have e := hoth id (fun j' e => hi ⟨j', e⟩) (fun j' e => hi' ⟨j', e⟩)
        rw [e] at hid
        cases hs : s.ent id with
        | none => rw [hs] at hid; cases hid
        | some en =>
          rw [hs] at hid
          cases en with
          | dead => simp [Ent.ren] at hid
          | obj v0 fr0 c0 =>
            simp only [Option.map_some, Ent.ren, Option.some.injEq, Ent.obj.injEq] at hid
            obtain ⟨rfl, rfl, rfl⟩ := hid
            have hne : id ≠ .new b 0 := fun e => hi' ⟨0, e⟩
            exact ⟨id, v0, c0, hs, rfl, if_neg fun e => hi ⟨0, e⟩, fun pl hp => ⟨fun k hk => by simp [g1, hk, relabL, hne], fun hk => by simp [g1, hk, relabL]⟩⟩
  · have e := hoth (.old k) (fun _ => by simp) (fun _ => by simp)
    show s1.ent (.old k) ≠ none
    rw [e]
    cases hs : s.ent (.old k) with
    | none => exact absurd hs hk
    | some en => simp
  · have e := hoth (.old k) (fun _ => by simp) (fun _ => by simp)
    have hh : s1.ent (.old k) = some (.obj v' fr' c') := hh
    rw [e] at hh
    cases hs : s.ent (.old k) with
    | none => rw [hs] at hh; cases hh
    | some en =>
      rw [hs] at hh
      cases en with
      | dead => simp [Ent.ren] at hh
      | obj v0 fr0 c0 =>
        simp only [Option.map_some, Ent.ren, Option.some.injEq, Ent.obj.injEq] at hh
        obtain ⟨rfl, rfl, _⟩ := hh
        exact ⟨c0, rfl⟩

theorem splice_same {l : List Value} {n : Nat} {vs : List Value} (h : (l.drop n).take vs.length = vs) : splice l n vs = l := by
  unfold splice
  have h2 : l.drop n = vs ++ l.drop (n + vs.length) := by
    conv => lhs; rw [← List.take_append_drop vs.length (l.drop n)]
    rw [h, List.drop_drop]
  have h3 := List.take_append_drop n l
  rw [h2] at h3
  simpa [List.append_assoc] using h3

/-- An empty slice where nil stood. -/
theorem Inv.nilAt (h : Inv C g β s a w) {j : Nat} {p : List Stp} (hat : (s.at j p).eval = some .nils) {q : Nat} (hq : s.virgin q = true) {e : TypeId} {t : Ty} (hz : 0 < t.size) {s' : AS}
    (he : ((s.born q [.obj 0 false (.vec e t [])]).putAt j (.sref (.new q 0) 0 [] 0 0 0) p).eval = some s') : Sts C s' a w := by
  obtain ⟨β', h1, h2, h3⟩ := h.nilVec hq (e := e) hz
  cases p with
  | nil =>
    simp only [AS.at] at hat
    have hj := eval_ok.1 hat
    simp only [AS.putAt] at he
    obtain rfl := eval_ok.1 he
    refine ⟨g, β', h1.see j ?_⟩
    have := h.slots j
    rw [hj] at this
    rw [nils_of this]
    exact h3
  | cons st p =>
    simp only [AS.at] at hat
    simp only [AS.putAt] at he
    have hslot : (s.born q [.obj 0 false (.vec e t [])]).slot j = s.slot j := rfl
    rw [hslot] at he
    split at hat
    · rename_i id ver hj
      split at hat
      · rename_i v fr c hob
        obtain ⟨hv, hat⟩ := eval_guard.1 hat
        obtain ⟨⟨n, u⟩, hl, hat⟩ := eval_bind.1 hat
        have hu := eval_ok.1 hat
        simp only at hu
        subst hu
        have hent := obj_some hob
        have hne : id ≠ .new q 0 := fun e => by rw [e, (virgin_ent hq).1 0] at hent; cases hent
        have hne' : ∀ j', id ≠ .new q j' := fun j' e => by rw [e, (virgin_ent hq).1 j'] at hent; cases hent
        have hent1 : (s.born q [.obj 0 false (.vec e t [])]).ent id = some (.obj v fr c) := (ent_born_other _ hne').trans hent
        have hob1 : (s.born q [.obj 0 false (.vec e t [])]).obj id = some (v, fr, c) := by simp only [AS.obj, hent1]
        simp only [hj, hob1] at he
        split at he
        · simp only [eval_fail] at he
        · rename_i c1 hc1
          obtain ⟨c', hup, he⟩ := eval_bind.1 he
          obtain rfl := eval_ok.1 he
          have hn : c.isVec = false := by
            cases c <;> first | rfl | (exact (hc1 _ _ _ rfl).elim)
          have hO := h1.objs id v fr c hent1
          obtain ⟨pl, cur, e0, hp, hh, hg, hk, hV⟩ := hO.box hn
          have ht := Trans.refl w g
          have hle := EnvLe.setEnt (s := s.born q [.obj 0 false (.vec e t [])]) (β := β') (v' := v) (fr' := fr) (c' := c.wrap c') hent1 (Nat.le_refl _) ht (fun _ _ => rfl) (fun _ => rfl)
          refine ⟨g, β', h1.step (slots_setEnt _ _ _) ht hle (Objs.setEnt h1.objs (by rw [hent1]; simp) hle (fun _ _ => rfl) (fun _ _ _ _ _ _ _ _ => ⟨rfl, rfl⟩) ?_)⟩
          obtain ⟨cs, k1, k2⟩ := h3
          have k2 : cs = [.slice none 0 0] := k2
          subst k2
          obtain ⟨u1, u2, u3⟩ := upd_sound (st :: p) c.strip cur.toList n .nils _ c' [.slice none 0 0] (VO.of hV) hl k1 hup
          have u4 := u2.to (u3.notVec hV.notVec)
          have hcell : (cur.toList.drop n).take 1 = [.slice none 0 0] := by
            rcases loc_sound (st :: p) c.strip cur.toList n .nils (VO.of hV) hl with ⟨hn0, hc0⟩ | ⟨q1, q2⟩
            · rw [← hc0] at hV
              simp only [V] at hV
              rw [hV, hn0]
              rfl
            · simpa only [V, AVal.size] using q1
          rw [splice_same (vs := [.slice none 0 0]) hcell] at u4
          exact BoxR.obj ⟨pl, cur, e0, hp, hh, hg, boxOk_wrap hk u4.notBx, by rw [strip_wrap c u4.notBx]; exact V.mono hle u4⟩
      · simp only [eval_fail] at hat
    · simp only [eval_fail] at hat

theorem ent_freezeAll : ∀ (ids : List Id) {s : AS} {i : Id} {v : Nat} {fr : Bool} {c : AVal}, s.ent i = some (.obj v fr c) → ∃ fr', (s.freezeAll ids).ent i = some (.obj v fr' c)
  | [], s, i, v, fr, c, h => ⟨fr, h⟩
  | id :: ids, s, i, v, fr, c, h => by
    obtain ⟨fr', h'⟩ := ent_freeze (id := id) h
    exact ent_freezeAll ids h'

/-- Data where something stood. -/
theorem Inv.datAt (h : Inv C g β s a w) {j : Nat} {p : List Stp} {u : AVal} (hat : (s.at j p).eval = some u) {t : Ty} {x : t.den} (ht : (s.toTy t u).eval = some x) {s' : AS}
    (he : ((s.freezeAll u.shared).putAt j (.d t x) p).eval = some s') : Sts C s' a w := by
  cases p with
  | nil =>
    simp only [AS.at] at hat
    have hj := eval_ok.1 hat
    simp only [AS.putAt] at he
    obtain rfl := eval_ok.1 he
    have hs := h.slots j
    rw [hj] at hs
    obtain ⟨g', i1, _, _, cs, hR, hO⟩ := toTy_sound h hs ht
    exact ⟨g', β, i1.see j (VS.of (a := .d t x) (cs := cs) (by simpa only [V] using hR) hO)⟩
  | cons st p =>
    simp only [AS.at] at hat
    simp only [AS.putAt] at he
    have hslot : (s.freezeAll u.shared).slot j = s.slot j := by simp only [AS.slot, slots_freezeAll]
    rw [hslot] at he
    split at hat
    · rename_i id ver hj
      split at hat
      · rename_i v fr c hob
        obtain ⟨hv, hat⟩ := eval_guard.1 hat
        obtain ⟨⟨n, u'⟩, hl, hat⟩ := eval_bind.1 hat
        have hu := eval_ok.1 hat
        simp only at hu
        subst hu
        have hent := obj_some hob
        obtain ⟨g', h1, h2, h3, h4⟩ := freezeAll_sound u'.shared h
        obtain ⟨fr', hent1⟩ := ent_freezeAll u'.shared hent
        have hob1 : (s.freezeAll u'.shared).obj id = some (v, fr', c) := by simp only [AS.obj, hent1]
        simp only [hj, hob1] at he
        split at he
        · simp only [eval_fail] at he
        · rename_i c1 hc1
          obtain ⟨c', hup, he⟩ := eval_bind.1 he
          obtain rfl := eval_ok.1 he
          have hn : c.isVec = false := by
            cases c <;> first | rfl | (exact (hc1 _ _ _ rfl).elim)
          obtain ⟨pl0, cur0, e00, hp0, hh0, hg0, hk0, hV0⟩ := (h.objs id v fr c hent).box hn
          obtain ⟨pl, cur, e0, hp, hh, hg, hk, hV⟩ := (h1.objs id v fr' c hent1).box hn
          have hpl : pl0 = pl := by
            have hp0 : β id = some pl0 := hp0
            have hp : β id = some pl := hp
            rw [hp0] at hp
            exact Option.some.inj hp
          subst hpl
          have hcur : cur0 = cur := by
            have hh0 : w.heap[pl0.b]? = _ := hh0
            have hh : w.heap[pl0.b]? = _ := hh
            rw [hh0] at hh
            simpa using (congrArg (fun o => match o with | some (.cells x _ _) => x | _ => cur0) hh)
          subst hcur
          obtain ⟨cs, hVu, hcell⟩ : ∃ cs, V (s.env w g β) u' cs ∧ (cur0.toList.drop n).take cs.length = cs := by
            rcases loc_sound (st :: p) c.strip cur0.toList n u' (VO.of hV0) hl with ⟨hn0, hc0⟩ | ⟨q1, q2⟩
            · refine ⟨cur0.toList, by rw [hc0]; exact hV0, ?_⟩
              rw [hn0, List.drop_zero, List.take_length]
            · refine ⟨_, q1, ?_⟩
              rw [List.length_take, List.length_drop]
              congr 1
              omega
          have hR := toTy_rep rfl h.objs h2 u' t x cs hVu ht h4
          have hVx : V ((s.freezeAll u'.shared).env w g' β) (.d t x) cs := by simpa only [V] using hR
          have ht' := Trans.refl w g'
          have hle := EnvLe.setEnt (s := s.freezeAll u'.shared) (β := β) (v' := v) (fr' := fr') (c' := c.wrap c') hent1 (Nat.le_refl _) ht' (fun _ _ => rfl) (fun _ => rfl)
          refine ⟨g', β, h1.step (slots_setEnt _ _ _) ht' hle (Objs.setEnt h1.objs (by rw [hent1]; simp) hle (fun _ _ => rfl) (fun _ _ _ _ _ _ _ _ => ⟨rfl, rfl⟩) ?_)⟩
          obtain ⟨u1, u2, u3⟩ := upd_sound (st :: p) c.strip cur0.toList n u' _ c' cs (VO.of hV) hl hVx hup
          have u4 := u2.to (u3.notVec hV.notVec)
          rw [splice_same (vs := cs) hcell] at u4
          exact BoxR.obj ⟨pl0, cur0, e0, hp, hh, hg, boxOk_wrap hk u4.notBx, by rw [strip_wrap c u4.notBx]; exact V.mono hle u4⟩
      · simp only [eval_fail] at hat
    · simp only [eval_fail] at hat

theorem dats_sound : ∀ (l : List Dat) {s s1 : AS}, Sts C s a w → (datsA s l).eval = some s1 → Sts C s1 a w
  | [], s, s1, h, he => by
    simp only [datsA] at he
    obtain rfl := eval_ok.1 he
    exact h
  | o :: l, s, s1, h, he => by
    obtain ⟨g, β, h⟩ := h
    simp only [datsA] at he
    obtain ⟨u, hu, he⟩ := eval_bind.1 he
    obtain ⟨x, hx, he⟩ := eval_bind.1 he
    obtain ⟨s', hs, he⟩ := eval_bind.1 he
    exact dats_sound l (h.datAt hu hx hs) he

theorem promote_sound (hC : ∀ i j, C.E.s (.new i j) = none) : ∀ (l : List Own') {s s1 : AS}, Sts C s a w → (promote P s l).eval = some s1 → Sts C s1 a w
  | [], s, s1, h, he => by
    simp only [promote] at he
    obtain rfl := eval_ok.1 he
    exact h
  | o :: l, s, s1, h, he => by
    obtain ⟨g, β, h⟩ := h
    simp only [promote] at he
    obtain ⟨u, hu, he⟩ := eval_bind.1 he
    split at he
    · split at he
      · rename_i e t b hel hv
        obtain ⟨s', h1, h2⟩ := eval_bind.1 he
        exact promote_sound hC l (h.nilAt hu hv (elemOfT_sound hel).2.1 h1) h2
      · simp only [eval_fail] at he
    · split at he
      · rename_i b ver hhead
        split at he
        · rename_i v fr c hob hm
          split at he
          · obtain ⟨g1, β1, h1⟩ := h.renum hC hob hm
            exact promote_sound hC l ⟨g1, β1, h1⟩ he
          · simp only [eval_fail] at he
        · simp only [eval_fail] at he
      · simp only [eval_fail] at he

theorem trim_sound : ∀ (l : List Nat) {s s1 : AS}, Sts C s a w → (trimA s l).eval = some s1 → Sts C s1 a w
  | [], s, s1, h, he => by
    simp only [trimA] at he
    obtain rfl := eval_ok.1 he
    exact h
  | j :: l, s, s1, h, he => by
    obtain ⟨g, β, h⟩ := h
    simp only [trimA] at he
    split at he
    · rename_i id ver len hj
      split at he
      · rename_i v e t r hob
        split at he
        · obtain ⟨h1, h2⟩ := eval_chk.1 he
          have h1 : len ≤ r.length := by simpa using h1
          refine trim_sound l ?_ h2
          have hent := obj_some hob
          have hO : ObjR (s.env w g β) id false (.vec e t r) := h.objs id v false _ hent
          have ht := Trans.refl w g
          have hle : EnvLe (s.env w g β) ((s.setEnt id (.obj v false (.vec e t (r.take len)))).env w g β) := EnvLe.setEnt hent (Nat.le_refl _) ht (fun _ _ => rfl) (fun _ => rfl)
          refine ⟨g, β, h.step (slots_setEnt _ _ _) ht hle (Objs.setEnt h.objs (by rw [hent]; simp) hle (fun _ _ => rfl) (fun _ _ _ _ _ _ _ _ => ⟨rfl, rfl⟩) ?_)⟩
          obtain ⟨hz, hO⟩ := hO
          refine ⟨hz, ?_⟩
          have hO : (match β id with
            | none => r = []
            | some pl => ∃ cur k, w.heap[pl.b]? = some (.cells cur e (0, 0)) ∧ cur.size = pl.cap * t.size ∧ r.length ≤ pl.cap ∧ pl.cap ≤ maxLen ∧ g pl.b = .own (.id id) k ∧
                k ≤ r.length * t.size ∧ (false = false → k = 0) ∧ Chunks (Rep (s.env w g β) t) (cur.toList.take (r.length * t.size)) r) := hO
          show (match β id with
            | none => r.take len = []
            | some pl => _)
          cases hp : β id with
          | none => rw [hp] at hO; simp only at hO; subst hO; simp
          | some pl =>
            rw [hp] at hO
            obtain ⟨cur, k, q1, q2, q3, q4, q5, q6, q7, q8⟩ := hO
            have hk := q7 rfl
            subst hk
            have hlen : (r.take len).length = len := by simp; omega
            refine ⟨cur, 0, q1, q2, by omega, q4, q5, Nat.zero_le _, fun _ => rfl, ?_⟩
            have := Chunks.take (fun _ _ hx => Rep.size hx) len q8
            rw [List.take_take, Nat.min_eq_left (Nat.mul_le_mul_right _ h1)] at this
            rw [hlen]
            exact this.mono fun _ _ hx => hx.mono hle.mem
        · simp only [eval_fail] at he
      · simp only [eval_fail] at he
    · simp only [eval_fail] at he

theorem asData_sound : ∀ (l : List (Nat × Ty)) {s s1 : AS}, Sts C s a w → (asData s l).eval = some s1 → Sts C s1 a w
  | [], s, s1, h, he => by
    simp only [asData] at he
    obtain rfl := eval_ok.1 he
    exact h
  | (j, t) :: l, s, s1, h, he => by
    obtain ⟨g, β, h⟩ := h
    simp only [asData] at he
    obtain ⟨x, h1, h2⟩ := eval_bind.1 he
    obtain ⟨g', i1, _, _, cs, hR, hO⟩ := toTy_sound h (h.slots j) h1
    exact asData_sound l ⟨g', β, i1.see j (VS.of (a := .d t x) (cs := cs) (by simpa only [V] using hR) hO)⟩ h2

theorem norm_sound (hC : ∀ i j, C.E.s (.new i j) = none) {an : LoopAnn} {s1 : AS} (h : Sts C s a w) (he : (norm P an s).eval = some s1) : Sts C s1 a w := by
  unfold norm at he
  obtain ⟨sd, h0d, he⟩ := eval_bind.1 he
  obtain ⟨s0, h1, h2⟩ := eval_bind.1 he
  obtain ⟨h3, h4⟩ := eval_guard.1 h2
  obtain ⟨g0, β0, h0⟩ := h
  obtain ⟨g1, i1, _⟩ := freezeAll_sound an.frz h0
  obtain ⟨g, β, h⟩ := asData_sound _ (dats_sound _ ⟨g1, β0, i1⟩ h0d) h1
  exact promote_sound hC _ ⟨g, β, h.keep hC h3⟩ h4

end
end Go.Ab
