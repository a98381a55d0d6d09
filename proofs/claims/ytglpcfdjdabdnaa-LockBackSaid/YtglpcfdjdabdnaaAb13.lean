/-
  The abstract machine, a part.
-/
import Derived.Test.YtglpcfdjdabdnaaAb11

/-
  Soundness of the operations, ninth part: structs and arrays that are built; append.
-/
namespace Go.Ab

section
variable {P : Program} {C : Ctx} {g : Nat → Lab} {β : Id → Option Pl} {s : AS} {a : Act} {w : World} {o : Oper}

/-! ### Building -/

theorem partOf_loc : ∀ (c : AVal) (f off : Nat) (v : AVal), partOf c f = some (off, v) → (loc c (fieldPath f)).eval = some (off, v) := by
  intro c f
  induction f generalizing c with
  | zero =>
    intro off v h
    cases c with
    | d t y =>
      cases t <;> simp only [partOf, reduceCtorEq] at h
      simp only [Option.some.injEq, Prod.mk.injEq] at h
      obtain ⟨rfl, rfl⟩ := h
      rfl
    | pr b c =>
      simp only [partOf, Option.some.injEq, Prod.mk.injEq] at h
      obtain ⟨rfl, rfl⟩ := h
      simp only [fieldPath, loc]
      cases b <;> rfl
    | _ => simp only [partOf, reduceCtorEq] at h
  | succ f ih =>
    intro off v h
    cases c with
    | d t y =>
      cases t with
      | pair ta tb =>
        simp only [partOf] at h
        cases hp : partOf (.d tb y.2) f with
        | none => rw [hp] at h; cases h
        | some r =>
          rw [hp] at h
          simp only [Option.some.injEq, Prod.mk.injEq] at h
          obtain ⟨rfl, rfl⟩ := h
          simp only [fieldPath, loc, eval_bind]
          exact ⟨_, ih _ _ _ hp, rfl⟩
      | _ => simp only [partOf, reduceCtorEq] at h
    | pr b c =>
      simp only [partOf] at h
      cases hp : partOf c f with
      | none => rw [hp] at h; cases h
      | some r =>
        rw [hp] at h
        simp only [Option.some.injEq, Prod.mk.injEq] at h
        obtain ⟨rfl, rfl⟩ := h
        simp only [fieldPath, loc, eval_bind]
        exact ⟨_, ih _ _ _ hp, rfl⟩
    | _ => simp only [partOf, reduceCtorEq] at h

theorem mkPr_agg (a b : AVal) : (mkPr a b).agg = true := by unfold mkPr; split <;> rfl

theorem upd_field_agg {v x v' : AVal} {i : Nat} (h : (upd v (fieldPath i) x).eval = some v') : v'.agg = true := by
  have fin : ∀ {o : Out AVal} {f : AVal → AVal}, (∀ a, (f a).agg = true) → (o.bind fun a => Out.ok (f a)).eval = some v' → v'.agg = true := by
    intro o f hf hh
    obtain ⟨_, _, h2⟩ := eval_bind.1 hh
    obtain rfl := eval_ok.1 h2
    exact hf _
  cases i <;> simp only [fieldPath] at h
  all_goals
    cases v with
    | d t y => cases t <;> first | (simp only [upd, eval_fail] at h; done) | (simp only [upd] at h; exact fin (fun _ => mkPr_agg _ _) h)
    | pr b c => simp only [upd] at h; exact fin (fun _ => mkPr_agg _ _) h
    | _ => simp only [upd, eval_fail] at h

theorem setFields_fill {E : Env} (hev : ∀ x, VS E (s.ev x) (a.eval x)) {fs : Array Field} {places : Array (Nat × Nat)} (hpl : ∀ (i : Nat) (f : Field), fs[i]? = some f → places[i]? = some (f.offset, P.cellsOf f.type)) :
    ∀ (ps : List (Nat × Operand)) (v v' : AVal) (cells : Array Value), (setFields P fs s ps v).eval = some v' → V E v cells.toList → v.agg = true →
      ∃ cells', Instr.fill (places[·]?) cells (ps.map fun (i, x) => (i, a.eval x)) = some cells' ∧ V E v' cells'.toList ∧ v'.agg = true
  | [], v, v', cells, h, hV, hag => by
    obtain rfl := eval_ok.1 h
    exact ⟨cells, rfl, hV, hag⟩
  | (i, x) :: ps, v, v', cells, h, hV, hag => by
    simp only [setFields] at h
    split at h
    · rename_i f off old hf hp
      obtain ⟨h1, h2⟩ := eval_guard.1 h
      obtain ⟨v1, h3, h4⟩ := eval_bind.1 h2
      simp only [Bool.and_eq_true, beq_iff_eq] at h1
      obtain ⟨⟨rfl, hfo⟩, hfx⟩ := h1
      obtain ⟨hcel, _⟩ := fits_sound hfx
      obtain ⟨cs, hVx, hO⟩ := (hev x).celled hcel
      have hcells := hO.cells hVx.one
      have hloc := partOf_loc _ _ _ _ hp
      obtain ⟨u1, u2, u3⟩ := upd_sound (fieldPath i) v cells.toList f.offset old (s.ev x) v1 cs (VO.of hV) hloc hVx h3
      have hnv : v1.isVec = false := u3.notVec hV.notVec
      have hsz : P.cellsOf f.type = cs.length := by rw [(fits_isAggT hfx).2.1]; exact hVx.size.symm
      obtain ⟨cells', q1, q2, q3⟩ := setFields_fill hev hpl ps v1 v' (splice cells.toList f.offset cs).toArray h4 (by simpa using u2.to hnv) (upd_field_agg h3)
      refine ⟨cells', ?_, q2, q3⟩
      rw [List.map_cons, fill_step (by rw [hpl i f hf, hsz]) hcells (by simpa using u1)]
      exact q1
    · simp only [eval_fail] at h

theorem run_mapM {α γ : Type} (f : α → Sem γ) (r : α → γ) : ∀ (l : List α), (∀ x ∈ l, (f x).run P w = .ok (r x) w) → (l.mapM f).run P w = .ok (l.map r) w
  | [], _ => by simp
  | x :: xs, h => by
    rw [List.mapM_cons]
    simp only [Sem.run_bind, h x (by simp), Result.andThen_ok, run_mapM f r xs (fun y hy => h y (by simp [hy])), Sem.run_pure, List.map_cons]

theorem build_runs (h : Inv C g β s a w) {T : TypeId} {parts : Array (Nat × Operand)} (ho : o.op = .build T parts) {s' : AS} (he : (buildA P s o.dst T parts.toList).eval = some s') : Runs P o a w (Sts C s') := by
  unfold buildA at he
  split at he
  · rename_i fs hT
    split at he
    · rename_i z hzo
      obtain ⟨h1, h2⟩ := eval_guard.1 he
      obtain ⟨v, h3, h4⟩ := eval_bind.1 h2
      obtain rfl := eval_ok.1 h4
      simp only [Bool.and_eq_true, List.all_eq_true] at h1
      obtain ⟨⟨hz, hag⟩, hinf⟩ := h1
      obtain ⟨i, zv, hi, hzv, hV, hO⟩ := zchk_sound hz (s.env w g β)
      let places : Array (Nat × Nat) := fs.map fun f => (f.offset, P.cellsOf f.type)
      have hpl : ∀ (i : Nat) (f : Field), fs[i]? = some f → places[i]? = some (f.offset, P.cellsOf f.type) := by
        intro i f hf
        simp [places, hf]
      obtain ⟨cells', q1, q2, q3⟩ := setFields_fill (a := a) h.ev hpl parts.toList z v zv.cells h3 hV hag
      have hm : (fs.mapM fun f => (do pure (f.offset, ← sizeOf f.type) : Sem (Nat × Nat))).run P w = .ok places w := by
        rw [Array.mapM_eq_mapM_toList]
        have := run_mapM (P := P) (w := w) (fun f => (do pure (f.offset, ← sizeOf f.type) : Sem (Nat × Nat))) (fun f => (f.offset, P.cellsOf f.type)) fs.toList (by
          intro f hf
          obtain ⟨j, hj⟩ := Option.isSome_iff_exists.1 (hinf f hf)
          rw [Sem.run_bind, run_sizeOf hj, cellsOf_eq hj]
          rfl)
        rw [Sem.run_map, this]
        show Result.ok _ w = Result.ok _ w
        congr 1
        apply Array.ext'
        simp [places]
      refine h.value (x := .agg cells') (VS.of q2 (by rw [q3]; simp [OfCells])) (exec_value (f := Instr.build T (parts.map fun (i, x) => (i, a.eval x))) (by simp only [execOp, ho]) ?_)
      have q1' : Instr.fill (places[·]?) zv.cells (parts.map fun (i, x) => (i, a.eval x)).toList = some cells' := by rw [map_parts]; exact q1
      simp only [Instr.build, Sem.run_bind, zeroValue, typeInfo, run_program, hi, Result.andThen_ok, Sem.run_pure, hzv, run_underlying hT, hm, q1']
    · simp only [eval_fail] at he
  · rename_i n e hT
    split at he
    · rename_i t ht
      obtain ⟨h1, h2⟩ := eval_guard.1 he
      obtain ⟨r, h3, h4⟩ := eval_bind.1 h2
      obtain rfl := eval_ok.1 h4
      simp only [Bool.and_eq_true, beq_iff_eq] at h1
      obtain ⟨hsz, hz⟩ := h1
      obtain ⟨g1, i1, e1, t1, f1⟩ := freezeAll_sound r.2 h
      obtain ⟨i, zv, hi, hzv, hV, hO⟩ := zchk_sound hz ((s.freezeAll r.2).env w g1 β)
      simp only [V, Rep] at hV
      obtain ⟨cells', q1, q2⟩ := setParts_fill (a := a) rfl h.objs e1 h.ev parts.toList _ r zv.cells h3 f1 hV.2
      have hlr : r.1.length = n := by
        have : ∀ (ps : List (Nat × Operand)) (l : List t.den) (r : List t.den × List Id), (setParts t s ps l).eval = some r → r.1.length = l.length := by
          intro ps
          induction ps with
          | nil => intro l r hh; obtain rfl := eval_ok.1 hh; rfl
          | cons p ps ih =>
            intro l r hh
            obtain ⟨i, x⟩ := p
            simp only [setParts] at hh
            obtain ⟨_, h2⟩ := eval_guard.1 hh
            obtain ⟨y, h3, h4⟩ := eval_bind.1 h2
            obtain ⟨r', h5, h6⟩ := eval_bind.1 h4
            obtain rfl := eval_ok.1 h6
            have := ih _ _ h5
            simpa using this
        rw [this _ _ _ h3]
        simp
      refine .inl ⟨.agg cells', w, exec_value (f := Instr.build T (parts.map fun (i, x) => (i, a.eval x))) (by simp only [execOp, ho]) ?_, g1, β, i1.put o.dst ⟨cells'.toList, ?_, by simp [OfCells, AVal.agg, Ty.agg]⟩⟩
      · have q1' : Instr.fill (fun i => some (i * t.size, t.size)) zv.cells (parts.map fun (i, x) => (i, a.eval x)).toList = some cells' := by rw [map_parts]; exact q1
        cases hie : P.info? e with
        | none =>
          -- an element type that is none of the program's takes no cells
          exfalso
          unfold tyOf at ht
          simp only [depth] at ht
          have : P.underlying e = none := by simp [Program.underlying, hie]
          rw [this] at ht
          cases ht
        | some ie =>
          have hse := run_sizeOf hie w
          rw [← cellsOf_eq hie, hsz] at hse
          simp only [Instr.build, Sem.run_bind, zeroValue, typeInfo, run_program, hi, Result.andThen_ok, Sem.run_pure, hzv, run_underlying hT, hse, q1']
      · simp only [V, Rep]
        exact ⟨hlr, q2⟩
    · simp only [eval_fail] at he
  · simp only [eval_fail] at he

/-! ### Append -/

theorem run_append_room' {T X ty e : TypeId} {i : TypeInfo} (hT : P.underlying T = some (.slice e)) (hX : P.underlying X = some .string ∨ ∃ e', P.underlying X = some (.slice e')) (hi : P.info? e = some i)
    {b sLen sCap : Nat} {cur : Array Value} (hg : w.heap[b]? = some (.cells cur e (0, 0))) {x : Value} {n : Nat} {news : List Value} (h1 : ∀ u ∈ news, u.oneCell' = true)
    (hlen : (Builtin.lenOf x).run P w = .ok n w) (hf : (Builtin.firstCells i.size n x).run P w = .ok news.toArray w) (hroom : sLen + n ≤ sCap) (hfit : sLen * i.size + news.length ≤ cur.size) :
    (Builtin.append_ #[T, X] ty #[.slice (some ⟨b, 0, none⟩) sLen sCap, x]).run P w = .ok (.slice (some ⟨b, 0, none⟩) (sLen + n) sCap) (w.setRow b (splice cur.toList (sLen * i.size) news).toArray) := by
  have hst := run_storeCells_at P b (sLen * i.size) e news 0 cur w hg (by simpa using hfit) h1
  simp only [Nat.add_zero] at hst
  rcases hX with hX | ⟨e', hX⟩ <;> simp [Builtin.append_, run_underlying hT, run_underlying hX, sizeOf, typeInfo, hi, hlen, hroom, hf, Addr.add_lit, hst, splice]

theorem run_append_nil' {T X ty e : TypeId} {i : TypeInfo} (hT : P.underlying T = some (.slice e)) (hX : P.underlying X = some .string ∨ ∃ e', P.underlying X = some (.slice e')) (hi : P.info? e = some i)
    {x : Value} (hlen : (Builtin.lenOf x).run P w = .ok 0 w) (hf : (Builtin.firstCells i.size 0 x).run P w = .ok #[] w) :
    (Builtin.append_ #[T, X] ty #[.slice none 0 0, x]).run P w = .ok (.slice none 0 0) w := by
  rcases hX with hX | ⟨e', hX⟩ <;> simp [Builtin.append_, run_underlying hT, run_underlying hX, sizeOf, typeInfo, hi, hlen, hf]

theorem run_append_grow' {T X ty e : TypeId} {i : TypeInfo} {zv : Value} (hT : P.underlying T = some (.slice e)) (hX : P.underlying X = some .string ∨ ∃ e', P.underlying X = some (.slice e')) (hi : P.info? e = some i) (hzv : i.zero = some zv)
    {ad : Option Addr} {sLen sCap : Nat} {olds : List Value} (ho : (Builtin.firstCells i.size sLen (.slice ad sLen sCap)).run P w.drew = .ok olds.toArray w.drew) {x : Value} {n : Nat} {news : List Value}
    (hlen : (Builtin.lenOf x).run P w = .ok n w) (hf : (Builtin.firstCells i.size n x).run P w.drew = .ok news.toArray w.drew) (hroom : sCap < sLen + n)
    (h63 : ((sLen + n : Nat) : Int) ≤ 9223372036854775807) (hfit : (sLen + n) * i.bytes ≤ 140737488355328) :
    (Builtin.append_ #[T, X] ty #[.slice ad sLen sCap, x]).run P w = .ok (.slice (some ⟨w.heap.size, 0, none⟩) (sLen + n) (grownCap w (sLen + n) sCap e))
      (w.drew.alloc (.cells (olds.toArray ++ news.toArray ++ Builtin.zeroCells zv.cells (grownCap w (sLen + n) sCap e - (sLen + n))) e)) := by
  have hn : ¬ (sLen + n ≤ sCap) := by omega
  have h63' : ¬ (9223372036854775807 < ((sLen : Int) + (n : Int))) := by omega
  have hfit' := growslice_fits (bytes := i.bytes) hroom hfit
  have h48' : ¬ (281474976710656 < Builtin.nextslicecap (sLen + n) sCap * i.bytes) := by omega
  rcases hX with hX | ⟨e', hX⟩
  all_goals
    simp [Builtin.append_, run_underlying hT, run_underlying hX, sizeOf, typeInfo, zeroValue, hi, hzv, hlen, hn, h63', h48', Question.forced, hf, ho, newRow, grownCap]
    congr 2
    apply Array.ext'
    simp [List.append_assoc]

end
end Go.Ab

/-
  Soundness of the operations, tenth part: append.
-/
namespace Go.Ab

section
variable {P : Program} {C : Ctx} {g : Nat → Lab} {β : Id → Option Pl} {s : AS} {a : Act} {w : World} {o : Oper}

/-- A slice whose row is only looked at now. -/
theorem peek_row (h : Inv C g β s a w) {v : AVal} {y : Value} (hv : VS (s.env w g β) v y) {t : Ty} {m : List t.den} (he : (s.peek (.slice t) v).eval = some m) :
    ∃ ad cap vs, y = .slice ad m.length cap ∧ (0 < m.length → ad.isSome = true) ∧ (∀ j u, vs[j]? = some u → ∃ bb off, ad = some ⟨bb, off, none⟩ ∧ w.cell? ⟨bb, off + j, none⟩ = some u) ∧ Chunks (Rep (s.env w g β) t) vs m := by
  have hp : (s.toTy (.slice t) v).eval = some m := he
  cases v <;> first | (simp only [AS.toTy, eval_fail] at hp; done) | skip
  case nils =>
    simp only [AS.toTy, eval_ok] at hp
    subst hp
    exact ⟨none, 0, [], nils_of hv, by simp, fun j u hj => by simp at hj, rfl⟩
  case d t' x =>
    simp only [AS.toTy] at hp
    obtain ⟨rfl, hp⟩ := castTy_some (eval_opt.1 hp)
    simp only at hp
    subst hp
    obtain ⟨ad, cap, vs, hy, _, hs, hr, hc⟩ := slice_of hv
    exact ⟨ad, cap, vs, hy, hs, fun j u hj => let ⟨bb, off, e, hh⟩ := hr j u hj; ⟨bb, off, e, hh.1⟩, hc⟩
  case sref id ver p c i len =>
    simp only [AS.toTy] at hp
    obtain ⟨⟨n, t', l⟩, h1, h2⟩ := eval_bind.1 hp
    obtain ⟨h3, h4⟩ := eval_chk.1 h2
    obtain ⟨hty, h5⟩ := castTy_some (eval_opt.1 h4)
    simp only [Ty.slice.injEq] at hty
    have hty' : t' = t := hty
    subst hty'
    simp only at h5
    subst h5
    simp only [decide_eq_true_eq] at h3
    obtain ⟨hc, hlen⟩ := h3
    obtain ⟨fr, c0, hent, hrow⟩ := row_sound rfl h.objs h1
    obtain ⟨ad, cap, hy, hle, hsome, hb, hcur⟩ := sref_of hv
    have hcur := hcur ⟨fr, c0, hent⟩
    have hxl : (cut l i len).length = len := cut_length hlen
    rcases hrow with ⟨hp, hl, _⟩ | ⟨pl, cur, e, hp, hh, hsz, hch, hbound⟩
    · rw [hp] at hcur
      simp only at hcur
      obtain ⟨rfl, rfl, rfl⟩ := hcur
      have : cut l i 0 = [] := by simp [cut]
      refine ⟨none, 0, [], by rw [hxl]; exact hy, by rw [hxl]; omega, fun _ _ hh => by simp at hh, ?_⟩
      rw [this]; rfl
    · rw [hp] at hcur
      simp only at hcur
      have hmul : (i + len) * t'.size ≤ l.length * t'.size := Nat.mul_le_mul_right _ hlen
      rw [Nat.add_mul] at hmul
      refine ⟨ad, cap, _, by rw [hxl]; exact hy, by rw [hxl]; exact hsome, ?_, chunks_cut hch i len⟩
      rw [part_mid _ _ _ _ _ hmul]
      intro j v hj
      rw [List.getElem?_take] at hj
      split at hj
      · rename_i hjl
        rw [List.getElem?_drop, hc] at hj
        have hlp : 0 < len := by
          rcases Nat.eq_zero_or_pos len with h0 | h0
          · subst h0; simp at hjl
          · exact h0
        refine ⟨pl.b, c, hcur.1 (.inl hlp), ?_⟩
        have hh' : w.heap[pl.b]? = some (.cells cur e (0, 0)) := hh
        rw [cell_of_row w pl.b (c + j) cur e (0, 0) hh']
        simpa using hj
      · cases hj

/-- What is put behind. -/
theorem moreA_sound (h : Inv C g β s a w) {t : Ty} {X : TypeId} {x : AVal} {y : Value} (hx : VS (s.env w g β) x y) {m : List t.den} (he : (moreA P s t X x).eval = some m) :
    (P.underlying X = some .string ∨ ∃ e', P.underlying X = some (.slice e')) ∧ ∃ news : List Value, Chunks (Rep (s.env w g β) t) news m ∧ (Builtin.lenOf y).run P w = .ok m.length w ∧
      ∀ w', w'.heap = w.heap → (Builtin.firstCells t.size m.length y).run P w' = .ok news.toArray w' := by
  have sl : ∀ (x : AVal), VS (s.env w g β) x y → (match P.underlying X with
      | some (.slice _) => s.peek (.slice t) x
      | _ => .fail).eval = some m → (P.underlying X = some .string ∨ ∃ e', P.underlying X = some (.slice e')) ∧ ∃ news : List Value, Chunks (Rep (s.env w g β) t) news m ∧ (Builtin.lenOf y).run P w = .ok m.length w ∧
      ∀ w', w'.heap = w.heap → (Builtin.firstCells t.size m.length y).run P w' = .ok news.toArray w' := by
    intro x hx he
    split at he
    · rename_i e' hX
      refine ⟨.inr ⟨e', hX⟩, ?_⟩
      obtain ⟨ad, cap, vs, rfl, hsome, hrow, hch⟩ := peek_row h hx he
      have hlen := Chunks.length (fun _ _ hx => Rep.size hx) hch
      refine ⟨vs, hch, rfl, fun w' hw' => ?_⟩
      cases ad with
      | none =>
        have hm0 : m.length = 0 := by
          rcases Nat.eq_zero_or_pos m.length with h0 | h0
          · exact h0
          · have := hsome h0; simp at this
        have : vs = [] := List.eq_nil_of_length_eq_zero (by rw [hlen, hm0, Nat.zero_mul])
        subst this
        rfl
      | some ad =>
        refine run_firstCells_some (P := P) w' t.size _ ad _ _ vs hlen (fun j v hj => ?_)
        obtain ⟨bb, off, e1, hh⟩ := hrow j v hj
        simp only [Option.some.injEq] at e1
        subst e1
        rw [Addr.add_lit]
        simpa [World.cell?, hw'] using hh
    · simp only [eval_fail] at he
  unfold moreA at he
  split at he
  · rename_i st
    split at he
    · rename_i hX
      refine ⟨.inl hX, ?_⟩
      obtain ⟨e, hm⟩ := castTy_some (eval_opt.1 he)
      have e' : Ty.int .u8 = t := by simpa using e
      subst e'
      simp only at hm
      subst hm
      have hy := str_of hx
      subst hy
      have hlen : (bytesOfStr st).length = st.size := by simp only [bytesOfStr, List.length_map, Array.length_toList]; rfl
      refine ⟨(bytesOfStr st).map (Value.int .u8), ints_chunks _, by rw [hlen]; rfl, fun w' _ => ?_⟩
      rw [hlen]
      simp only [Builtin.firstCells, Sem.run_pure]
      congr 1
      apply Array.ext'
      rw [ByteArray.extract_zero_size]
      simp [bytesOfStr]
    · simp only [eval_fail] at he
  · exact sl _ hx he

theorem zeroCells_size (z : Array Value) (n : Nat) : (Builtin.zeroCells z n).size = n * z.size := by simp [Builtin.zeroCells]

theorem append_runs (h : Inv C g β s a w) {c : Call} {x y : Operand} {T X : TypeId} (ho : o.op = .call c) (hc : c.callee = .builtin .append) (ha : c.args.toList = [x, y]) (ht : c.argTypes.toList = [T, X]) {s' : AS}
    (he : (appendA P s o.dst T X (s.ev x) (s.ev y)).eval = some s') : Runs P o a w (Sts C s') := by
  obtain ⟨cal, args, tys⟩ := c
  simp only at hc ha ht
  have ha' : args = #[x, y] := by apply Array.ext'; simpa using ha
  have ht' : tys = #[T, X] := by apply Array.ext'; simpa using ht
  subst hc ha' ht'
  have hx := h.ev x
  have hy := h.ev y
  have fin : ∀ z w', (Builtin.append_ #[T, X] 0 #[a.eval x, a.eval y]).run P w = .ok z w' → (∃ g' β', Inv C g' β' s' (a.put o.dst z) w') → Runs P o a w (Sts C s') := by
    intro z w' h1 h2
    refine .inl ⟨z, w', builtin_value ho (f := Builtin.append_ #[T, X] 0 #[a.eval x, a.eval y]) (fun ty cs xs hxs => ?_) h1, h2⟩
    subst hxs
    have e1 : Builtin.append_ #[T, X] 0 #[a.eval x, a.eval y] = Builtin.append_ #[T, X] ty #[a.eval x, a.eval y] := rfl
    rw [e1]
    simp [builtin]
  unfold appendA at he
  split at he
  · rename_i e t b q hel hd
    obtain ⟨hT, hz, i, zv, hi, his, hib, hzv, hzr⟩ := elemOfT_sound hel
    obtain ⟨m, hm, he⟩ := eval_bind.1 he
    obtain ⟨hX, news, hch, hlen, hfc⟩ := moreA_sound h hy hm
    have hnl := hch.length (fun _ _ hx => Rep.size hx)
    have h1news : ∀ u ∈ news, u.oneCell' = true := Chunks.all (fun _ _ hx => hx.one) hch
    rw [← his] at hfc
    have hzc : zv.cells.size = t.size := by have := (hzr (s.env w g β)).size; simpa using this
    have hzcc : ∀ n, (Builtin.zeroCells zv.cells n).size = n * t.size := fun n => by rw [zeroCells_size, hzc]
    -- a new block, for what was there and what comes
    have grow : ∀ (ad : Option Addr) (sLen sCap : Nat) (olds : List Value) (l0 : List t.den), a.eval x = .slice ad sLen sCap → olds.length = sLen * t.size → l0.length = sLen → Chunks (Rep (s.env w g β) t) olds l0 →
        (Builtin.firstCells i.size sLen (.slice ad sLen sCap)).run P w.drew = .ok olds.toArray w.drew → sCap < sLen + m.length → roomA (sLen + m.length) b = true →
        ∃ (cur : Array Value) (cap : Nat), (Builtin.append_ #[T, X] 0 #[a.eval x, a.eval y]).run P w = .ok (.slice (some ⟨w.heap.size, 0, none⟩) (sLen + m.length) cap) (w.drew.alloc (.cells cur e)) ∧
          cur.size = cap * t.size ∧ sLen + m.length ≤ cap ∧ cap ≤ maxLen ∧ cur.toList.take ((sLen + m.length) * t.size) = olds ++ news := by
      intro ad sLen sCap olds l0 hxv hlo hl0 hco hfo hroom hra
      simp only [roomA, decide_eq_true_eq] at hra
      have hr := run_append_grow' (P := P) (w := w) (ty := 0) hT hX hi hzv hfo hlen (hfc w.drew rfl) hroom (by omega) (by rw [hib]; exact hra.1)
      rw [hxv]
      refine ⟨_, _, hr, ?_, grownCap_ge _ _ _ _, grownCap_le_maxLen _ _ _ _ (by unfold maxLen; omega), ?_⟩
      · have hge := grownCap_ge w (sLen + m.length) sCap e
        simp only [Array.size_append, List.size_toArray, hzcc, hlo, hnl, ← Nat.add_mul]
        congr 1
        omega
      · have hl2 : (olds ++ news).length = (sLen + m.length) * t.size := by rw [List.length_append, hlo, hnl, Nat.add_mul]
        simp only [Array.toList_append]
        rw [← hl2]
        exact List.take_left
    split at he
    · rename_i hxn
      rw [hxn] at hx
      have hxv := nils_of hx
      obtain ⟨hq, he⟩ := eval_guard.1 he
      obtain ⟨hra, he⟩ := eval_chk.1 he
      obtain rfl := eval_ok.1 he
      by_cases hm0 : m.length = 0
      · have hmn : m = [] := List.eq_nil_of_length_eq_zero hm0
        subst hmn
        have hnn : news = [] := List.eq_nil_of_length_eq_zero (by rw [hnl]; simp)
        subst hnn
        obtain ⟨β', i1, e1, v1⟩ := h.nilVec hq (e := e) hz
        refine fin (.slice none 0 0) w ?_ ⟨g, β', ?_⟩
        · rw [hxv]
          exact run_append_nil' (P := P) hT hX hi hlen (hfc w rfl)
        · exact i1.put o.dst v1
      · obtain ⟨cur, cap, hr, q1, q2, q3, q4⟩ := grow none 0 0 [] [] hxv (by simp) rfl rfl rfl (by omega) (by simpa using hra)
        simp only [Nat.zero_add, List.nil_append] at hr q2 q4
        obtain ⟨g2, β2, i2, v2⟩ := (h.drew).newVec hq (e := e) (l := m) (cur := cur) (cap := cap) hz (by rw [q4]; exact hch.mono fun _ _ hx => hx.mono (EnvLe.same (s := s) (β := β) (Trans.drew w g)).mem) q1 q2 q3
        refine fin _ _ hr ⟨g2, β2, ?_⟩
        exact i2.put o.dst v2
    · rename_i id ver len hxs
      rw [hxs] at hx
      obtain ⟨ad, cap, hxv, hlc, hsome, hbnd, hcur⟩ := sref_of hx
      split at he
      · rename_i v fr e' t' l hob
        obtain ⟨h1, he1⟩ := eval_guard.1 he
        clear he
        simp only [Bool.and_eq_true, beq_iff_eq] at h1
        obtain ⟨hve, hee⟩ := h1
        subst hve hee
        obtain ⟨l', hl', he2⟩ := eval_bind.1 he1
        obtain ⟨et, hl'⟩ := castTy_some (eval_opt.1 hl')
        have et' : t' = t := by simpa using et
        subst et'
        simp only at hl'
        subst hl'
        obtain ⟨hll0, he2b⟩ := eval_chk.1 he2
        have hll0 : len ≤ l.length := by simpa using hll0
        obtain ⟨hfl, he3⟩ := eval_chk.1 he2b
        obtain ⟨hra, he4⟩ := eval_chk.1 he3
        obtain rfl := eval_ok.1 he4
        clear he1 he2 he2b he3 he4
        have hent := obj_some hob
        have hcur := hcur ⟨fr, _, hent⟩
        obtain ⟨_, hO⟩ := h.objs id v fr _ hent
        have hO' : (match β id with
          | none => l = []
          | some pl => ∃ cur k, w.heap[pl.b]? = some (.cells cur e (0, 0)) ∧ cur.size = pl.cap * t'.size ∧ l.length ≤ pl.cap ∧ pl.cap ≤ maxLen ∧ g pl.b = .own (.id id) k ∧
              k ≤ l.length * t'.size ∧ (fr = false → k = 0) ∧ Chunks (Rep (s.env w g β) t') (cur.toList.take (l.length * t'.size)) l) := hO
        have hcur' : (match β id with
          | some pl => (0 < len ∨ 0 = 0 → ad = some ⟨pl.b, 0, none⟩) ∧ (([] : List Stp) = [] → 0 = 0 → cap = pl.cap)
          | none => ad = none ∧ len = 0 ∧ cap = 0) := hcur
        have hfr : fr = false ∨ len = l.length := by
          simp only [Bool.or_eq_true, Bool.not_eq_true', decide_eq_true_eq] at hfl
          exact hfl
        have hne : s.ent id ≠ none := by rw [hent]; simp
        -- the object, in a block of its own that is new
        have fresh : ∀ (cur : Array Value) (cp : Nat) (g0 : Nat → Lab), Trans w (w.drew.alloc (.cells cur e)) g (upd1 g0 w.heap.size (.own (.id (id)) 0)) →
            (∀ i ver fr c pl, i ≠ id → s.ent i = some (.obj ver fr c) → β i = some pl → g0 pl.b = g pl.b) → cur.size = cp * t'.size → len + m.length ≤ cp → cp ≤ maxLen →
            Chunks (Rep (s.env w g β) t') (cur.toList.take ((len + m.length) * t'.size)) (l.take len ++ m) → len ≤ l.length →
            ∃ g' β', Inv C g' β' ((s.setEnt id (.obj (v + 1) fr (.vec e t' (l.take len ++ m)))).put o.dst (.sref id (v + 1) [] 0 0 (len + m.length))) (a.put o.dst (.slice (some ⟨w.heap.size, 0, none⟩) (len + m.length) cp)) (w.drew.alloc (.cells cur e)) := by
          intro cur cp g0 ht hg0 q1 q2 q3 q4 q5
          have hll : (l.take len ++ m).length = len + m.length := by simp; omega
          have hle : EnvLe (s.env w g β) ((s.setEnt id (.obj (v + 1) fr (.vec e t' (l.take len ++ m)))).env (w.drew.alloc (.cells cur e)) (upd1 g0 w.heap.size (.own (.id id) 0)) (updI β id (some ⟨w.heap.size, cp⟩))) :=
            EnvLe.setEnt hent (by omega) ht (fun i hi => updI_other _ _ _ hi) (fun hh => by omega)
          have i1 := h.step (slots_setEnt _ _ _) ht hle (Objs.setEnt h.objs hne hle (fun i hi => updI_other _ _ _ hi) (fun i ver fr' c' pl hi hs2 hp2 => by
              have hlt : pl.b < w.heap.size := ((h.objs i ver fr' c' hs2).label (pl := pl) hp2).1
              exact ⟨alloc_lt w.drew _ hlt, by rw [upd1_other _ _ _ (by omega)]; exact hg0 i ver fr' c' pl hi hs2 hp2⟩) (by
            refine ⟨hz, ?_⟩
            show (match updI β id (some ⟨w.heap.size, cp⟩) id with
              | none => (l.take len ++ m) = []
              | some pl => _)
            rw [updI_self]
            refine ⟨cur, 0, alloc_at w.drew _, q1, by rw [hll]; exact q2, q3, upd1_self _ _ _, Nat.zero_le _, fun _ => rfl, ?_⟩
            rw [hll]
            exact q4.mono fun _ _ hx => hx.mono hle.mem))
          refine ⟨_, _, i1.put o.dst ⟨_, ?_, rfl⟩⟩
          simp only [V]
          have hself := ent_setEnt_self s id (.obj (v + 1) fr (.vec e t' (l.take len ++ m))) hne
          refine ⟨_, _, rfl, q2, fun _ => rfl, ⟨by show (s.setEnt id _).ent id ≠ none; rw [hself]; simp, fun v' fr' c' hh => ?_⟩, fun _ => ?_⟩
          · have hh' : (s.setEnt id (.obj (v + 1) fr (.vec e t' (l.take len ++ m)))).ent id = some (.obj v' fr' c') := hh
            rw [hself] at hh'
            simp only [Option.some.injEq, Ent.obj.injEq] at hh'
            omega
          · show (match updI β id (some ⟨w.heap.size, cp⟩) id with
              | some pl => _
              | none => _)
            rw [updI_self]
            exact ⟨fun _ => rfl, fun _ _ => rfl⟩
        cases hp : β id with
        | none =>
          rw [hp] at hO' hcur'
          simp only at hO' hcur'
          obtain ⟨rfl, rfl, rfl⟩ := hcur'
          subst hO'
          by_cases hm0 : m.length = 0
          · have hmn : m = [] := List.eq_nil_of_length_eq_zero hm0
            subst hmn
            have hnn : news = [] := List.eq_nil_of_length_eq_zero (by rw [hnl]; simp)
            subst hnn
            have ht := Trans.refl w g
            have hle : EnvLe (s.env w g β) ((s.setEnt id (.obj (v + 1) fr (.vec e t' []))).env w g β) := EnvLe.setEnt hent (by omega) ht (fun _ _ => rfl) (fun _ => rfl)
            have i1 := h.step (slots_setEnt _ _ _) ht hle (Objs.setEnt h.objs hne hle (fun _ _ => rfl) (fun _ _ _ _ _ _ _ _ => ⟨rfl, rfl⟩) (by
              refine ⟨hz, ?_⟩
              show (match β id with
                | none => ([] : List t'.den) = []
                | some pl => _)
              rw [hp]))
            refine fin (.slice none 0 0) w ?_ ⟨g, β, i1.put o.dst ⟨_, ?_, rfl⟩⟩
            · rw [hxv]
              exact run_append_nil' (P := P) hT hX hi hlen (hfc w rfl)
            · simp only [V]
              have hself := ent_setEnt_self s id (.obj (v + 1) fr (.vec e t' [])) hne
              refine ⟨_, _, rfl, Nat.le_refl _, fun hh => by simp at hh, ⟨by show (s.setEnt id _).ent id ≠ none; rw [hself]; simp, fun v' fr' c' hh => ?_⟩, fun _ => ?_⟩
              · have hh' : (s.setEnt id (.obj (v + 1) fr (.vec e t' []))).ent id = some (.obj v' fr' c') := hh
                rw [hself] at hh'
                simp only [Option.some.injEq, Ent.obj.injEq] at hh'
                omega
              · show (match β id with
                  | some pl => _
                  | none => _)
                rw [hp]
                exact ⟨rfl, by simp, rfl⟩
          · obtain ⟨cur, cp, hr, q1, q2, q3, q4⟩ := grow none 0 0 [] [] hxv (by simp) rfl rfl rfl (by omega) hra
            refine fin _ _ hr (fresh cur cp g (Trans.trans (Trans.drew w g) (Trans.alloc w.drew g _ _)) (fun _ _ _ _ _ _ _ _ => rfl) q1 q2 q3 ?_ (by simp))
            rw [q4]
            simpa using hch
        | some pl =>
          rw [hp] at hO' hcur'
          simp only at hO' hcur'
          obtain ⟨had, hcap⟩ := hcur'
          have had := had (.inr trivial)
          have hcap := hcap trivial trivial
          subst had hcap
          obtain ⟨cur, k, p1, p2, p3, p4, p5, p6, p7, p8⟩ := hO'
          have hk : k ≤ len * t'.size := by
            rcases hfr with hf | hf
            · rw [p7 hf]; exact Nat.zero_le _
            · rw [hf]; exact p6
          have hmul : len * t'.size ≤ l.length * t'.size := Nat.mul_le_mul_right _ hll0
          have hmulc : l.length * t'.size ≤ cur.size := by rw [p2]; exact Nat.mul_le_mul_right _ p3
          have htk := Chunks.take (fun _ _ hx => Rep.size hx) len p8
          rw [List.take_take, Nat.min_eq_left hmul] at htk
          have hlo : (cur.toList.take (len * t'.size)).length = len * t'.size := by simp; omega
          by_cases hroom : len + m.length ≤ pl.cap
          · have hrm : (len + m.length) * t'.size ≤ cur.size := by rw [p2]; exact Nat.mul_le_mul_right _ hroom
            have hfit : len * i.size + news.length ≤ cur.size := by rw [his, hnl, ← Nat.add_mul]; exact hrm
            have hr := run_append_room' (P := P) (w := w) (ty := 0) hT hX hi p1 h1news hlen (hfc w rfl) hroom hfit
            rw [his] at hr hfit
            have ht : Trans w (w.setRow pl.b (splice cur.toList (len * t'.size) news).toArray) g g := by
              refine ⟨by simp, by simp, by simp, by simp, fun b' hb => ?_⟩
              by_cases hbe : b' = pl.b
              · subst hbe
                rw [p5]
                refine ⟨.inr ⟨id, k, rfl, Nat.le_refl _⟩, fun off u hoff hu => ?_⟩
                rw [cell_of_row w pl.b off cur e (0, 0) p1] at hu
                rw [cell_setRow_same w pl.b off cur _ e (0, 0) p1]
                simp only [splice, List.append_assoc, List.getElem?_toArray]
                rw [List.getElem?_append_left (by rw [hlo]; omega), List.getElem?_take, if_pos (by omega)]
                simpa using hu
              · rw [setRow_other w pl.b b' _ hbe]
                cases hgb : g b' with
                | free => exact ⟨rfl, rfl⟩
                | own o' k => cases o' with
                  | foreign => exact ⟨rfl, rfl⟩
                  | id i' => exact ⟨.inr ⟨i', k, rfl, Nat.le_refl _⟩, fun off v _ hv => by rw [cell_setRow_other w pl.b _ _ hbe]; exact hv⟩
            have hle : EnvLe (s.env w g β) ((s.setEnt id (.obj (v + 1) fr (.vec e t' (l.take len ++ m)))).env (w.setRow pl.b (splice cur.toList (len * t'.size) news).toArray) g β) :=
              EnvLe.setEnt hent (by omega) ht (fun _ _ => rfl) (fun _ => rfl)
            have hll : (l.take len ++ m).length = len + m.length := by simp; omega
            have hspl : (splice cur.toList (len * t'.size) news).length = cur.toList.length := splice_length (by simpa using hfit)
            have i1 := h.step (slots_setEnt _ _ _) ht hle (Objs.setEnt h.objs hne hle (fun _ _ => rfl) (fun i ver fr c pl2 hi hs2 hp2 => ⟨setRow_other w pl.b pl2.b _ (h.apart p5 hi hs2 hp2), rfl⟩) (by
              refine ⟨hz, ?_⟩
              show (match β id with
                | none => (l.take len ++ m) = []
                | some pl => _)
              rw [hp]
              refine ⟨_, k, setRow_heap w pl.b cur _ e (0, 0) p1, by rw [List.size_toArray, hspl]; simpa using p2, by rw [hll]; exact hroom, p4, p5, ?_, p7, ?_⟩
              · rw [hll, Nat.add_mul]; omega
              · rw [hll, show (splice cur.toList (len * t'.size) news).toArray.toList = splice cur.toList (len * t'.size) news from rfl]
                have e1 : (splice cur.toList (len * t'.size) news).take ((len + m.length) * t'.size) = cur.toList.take (len * t'.size) ++ news := by
                  unfold splice
                  have hl2 : (cur.toList.take (len * t'.size) ++ news).length = (len + m.length) * t'.size := by rw [List.length_append, hlo, hnl, Nat.add_mul]
                  rw [← hl2]
                  exact List.take_left
                rw [e1]
                exact (Chunks.append htk hch).mono fun _ _ hx => hx.mono hle.mem))
            rw [← hxv] at hr
            refine fin _ _ hr ⟨g, β, i1.put o.dst ⟨_, ?_, rfl⟩⟩
            simp only [V]
            have hself := ent_setEnt_self s id (.obj (v + 1) fr (.vec e t' (l.take len ++ m))) hne
            refine ⟨_, _, rfl, hroom, fun _ => rfl, ⟨by show (s.setEnt id _).ent id ≠ none; rw [hself]; simp, fun v' fr' c' hh => ?_⟩, fun _ => ?_⟩
            · have hh' : (s.setEnt id (.obj (v + 1) fr (.vec e t' (l.take len ++ m)))).ent id = some (.obj v' fr' c') := hh
              rw [hself] at hh'
              simp only [Option.some.injEq, Ent.obj.injEq] at hh'
              omega
            · show (match β id with
                | some pl => _
                | none => _)
              rw [hp]
              exact ⟨fun _ => rfl, fun _ _ => rfl⟩
          · have hfo : (Builtin.firstCells i.size len (.slice (some ⟨pl.b, 0, none⟩) len pl.cap)).run P w.drew = .ok (cur.toList.take (len * t'.size)).toArray w.drew := by
              refine run_firstCells_some (P := P) w.drew i.size _ _ _ _ _ (by rw [hlo, his]) (fun j u hj => ?_)
              rw [Addr.add_lit, Nat.zero_add]
              show w.cell? ⟨pl.b, j, none⟩ = some u
              rw [cell_of_row w pl.b j cur e (0, 0) p1]
              rw [List.getElem?_take] at hj
              split at hj
              · simpa using hj
              · cases hj
            obtain ⟨cur2, cp, hr, q1, q2, q3, q4⟩ := grow (some ⟨pl.b, 0, none⟩) len pl.cap (cur.toList.take (len * t'.size)) (l.take len) hxv hlo (by simp; omega) htk hfo (by omega) hra
            have hlt : pl.b < w.heap.size := (Array.getElem?_eq_some_iff.1 p1).1
            have hfree : Trans w w.drew g (upd1 g pl.b .free) := by
              refine ⟨rfl, rfl, rfl, Nat.le_refl _, fun b' hb => ?_⟩
              by_cases hbe : b' = pl.b
              · subst hbe
                rw [p5, upd1_self]
                exact ⟨.inl rfl, fun _ _ _ hh => hh⟩
              · rw [upd1_other _ _ _ hbe]
                exact (Trans.drew w g).blk b' hb
            refine fin _ _ hr (fresh cur2 cp (upd1 g pl.b .free) (Trans.trans hfree (Trans.alloc w.drew _ _ _)) (fun i ver fr c pl2 hi hs2 hp2 => upd1_other _ _ _ (h.apart p5 hi hs2 hp2)) q1 q2 q3 ?_ hll0)
            rw [q4]
            exact Chunks.append htk hch
      · simp only [eval_fail] at he
    · simp only [eval_fail] at he
  · simp only [eval_fail] at he

end
end Go.Ab
