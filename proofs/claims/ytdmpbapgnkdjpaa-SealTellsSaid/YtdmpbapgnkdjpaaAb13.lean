/-
  Soundness of the operations, ninth part: structs and arrays that are built; append.
-/
import Derived.Test.YtdmpbapgnkdjpaaAb12
namespace Go.Ab

section
variable {P : Program} {C : Ctx} {g : Nat → Lab} {β : Id → Option Pl} {s : AS} {a : Act} {w : World} {o : Oper}

/-! ### Building -/

theorem partOf_loc : ∀ (c : AVal) (f off : Nat) (v : AVal), partOf c f = some (off, v) → (loc c (fieldPath f)).eval = some (off, v) := by
  intro c f
  induction f generalizing c with
  | zero =>
    intro off v h
    cases c with
    | d t y =>
      cases t <;> simp only [partOf, reduceCtorEq] at h
      simp only [Option.some.injEq, Prod.mk.injEq] at h
      obtain ⟨rfl, rfl⟩ := h
      rfl
    | pr b c =>
      simp only [partOf, Option.some.injEq, Prod.mk.injEq] at h
      obtain ⟨rfl, rfl⟩ := h
      simp only [fieldPath, loc]
      cases b <;> rfl
    | _ => simp only [partOf, reduceCtorEq] at h
  | succ f ih =>
    intro off v h
    cases c with
    | d t y =>
      cases t with
      | pair ta tb =>
        simp only [partOf] at h
        cases hp : partOf (.d tb y.2) f with
        | none => rw [hp] at h; cases h
        | some r =>
          rw [hp] at h
          simp only [Option.some.injEq, Prod.mk.injEq] at h
          obtain ⟨rfl, rfl⟩ := h
          simp only [fieldPath, loc, eval_bind]
          exact ⟨_, ih _ _ _ hp, rfl⟩
      | _ => simp only [partOf, reduceCtorEq] at h
    | pr b c =>
      simp only [partOf] at h
      cases hp : partOf c f with
      | none => rw [hp] at h; cases h
      | some r =>
        rw [hp] at h
        simp only [Option.some.injEq, Prod.mk.injEq] at h
        obtain ⟨rfl, rfl⟩ := h
        simp only [fieldPath, loc, eval_bind]
        exact ⟨_, ih _ _ _ hp, rfl⟩
    | _ => simp only [partOf, reduceCtorEq] at h

theorem mkPr_agg (a b : AVal) : (mkPr a b).agg = true := by unfold mkPr; split <;> rfl

theorem upd_field_agg {v x v' : AVal} {i : Nat} (h : (upd v (fieldPath i) x).eval = some v') : v'.agg = true := by
  have fin : ∀ {o : Out AVal} {f : AVal → AVal}, (∀ a, (f a).agg = true) → (o.bind fun a => Out.ok (f a)).eval = some v' → v'.agg = true := by
    intro o f hf hh
    obtain ⟨_, _, h2⟩ := eval_bind.1 hh
    obtain rfl := eval_ok.1 h2
    exact hf _
  cases i <;> simp only [fieldPath] at h
  all_goals
    cases v with
    | d t y => cases t <;> first | (simp only [upd, eval_fail] at h; done) | (simp only [upd] at h; exact fin (fun _ => mkPr_agg _ _) h)
    | pr b c => simp only [upd] at h; exact fin (fun _ => mkPr_agg _ _) h
    | _ => simp only [upd, eval_fail] at h

theorem setFields_fill {E : Env} (hev : ∀ x, VS E (s.ev x) (a.eval x)) {fs : Array Field} {places : Array (Nat × Nat)} (hpl : ∀ (i : Nat) (f : Field), fs[i]? = some f → places[i]? = some (f.offset, P.cellsOf f.type)) :
    ∀ (ps : List (Nat × Operand)) (v v' : AVal) (cells : Array Value), (setFields P fs s ps v).eval = some v' → V E v cells.toList → v.agg = true →
      ∃ cells', Instr.fill (places[·]?) cells (ps.map fun (i, x) => (i, a.eval x)) = some cells' ∧ V E v' cells'.toList ∧ v'.agg = true
  | [], v, v', cells, h, hV, hag => by
    obtain rfl := eval_ok.1 h
    exact ⟨cells, rfl, hV, hag⟩
  | (i, x) :: ps, v, v', cells, h, hV, hag => by
    simp only [setFields] at h
    split at h
    · rename_i f off old hf hp
      obtain ⟨h1, h2⟩ := eval_guard.1 h
      obtain ⟨v1, h3, h4⟩ := eval_bind.1 h2
      simp only [Bool.and_eq_true, beq_iff_eq] at h1
      obtain ⟨⟨rfl, hfo⟩, hfx⟩ := h1
      obtain ⟨hcel, _⟩ := fits_sound hfx
      obtain ⟨cs, hVx, hO⟩ := (hev x).celled hcel
      have hcells := hO.cells hVx.one
      have hloc := partOf_loc _ _ _ _ hp
      obtain ⟨u1, u2, u3⟩ := upd_sound (fieldPath i) v cells.toList f.offset old (s.ev x) v1 cs (VO.of hV) hloc hVx h3
      have hnv : v1.isVec = false := u3.notVec hV.notVec
      have hsz : P.cellsOf f.type = cs.length := by rw [(fits_isAggT hfx).2.1]; exact hVx.size.symm
      obtain ⟨cells', q1, q2, q3⟩ := setFields_fill hev hpl ps v1 v' (splice cells.toList f.offset cs).toArray h4 (by simpa using u2.to hnv) (upd_field_agg h3)
      refine ⟨cells', ?_, q2, q3⟩
      rw [List.map_cons, fill_step (by rw [hpl i f hf, hsz]) hcells (by simpa using u1)]
      exact q1
    · simp only [eval_fail] at h

theorem run_mapM {α γ : Type} (f : α → Sem γ) (r : α → γ) : ∀ (l : List α), (∀ x ∈ l, (f x).run P w = .ok (r x) w) → (l.mapM f).run P w = .ok (l.map r) w
  | [], _ => by simp
  | x :: xs, h => by
    rw [List.mapM_cons]
    simp only [Sem.run_bind, h x (by simp), Result.andThen_ok, run_mapM f r xs (fun y hy => h y (by simp [hy])), Sem.run_pure, List.map_cons]

theorem build_runs (h : Inv C g β s a w) {T : TypeId} {parts : Array (Nat × Operand)} (ho : o.op = .build T parts) {s' : AS} (he : (buildA P s o.dst T parts.toList).eval = some s') : Runs P o a w (Sts C s') := by
  unfold buildA at he
  split at he
  · rename_i fs hT
    split at he
    · rename_i z hzo
      obtain ⟨h1, h2⟩ := eval_guard.1 he
      obtain ⟨v, h3, h4⟩ := eval_bind.1 h2
      obtain rfl := eval_ok.1 h4
      simp only [Bool.and_eq_true, List.all_eq_true] at h1
      obtain ⟨⟨hz, hag⟩, hinf⟩ := h1
      obtain ⟨i, zv, hi, hzv, hV, hO⟩ := zchk_sound hz (s.env w g β)
      let places : Array (Nat × Nat) := fs.map fun f => (f.offset, P.cellsOf f.type)
      have hpl : ∀ (i : Nat) (f : Field), fs[i]? = some f → places[i]? = some (f.offset, P.cellsOf f.type) := by
        intro i f hf
        simp [places, hf]
      obtain ⟨cells', q1, q2, q3⟩ := setFields_fill (a := a) h.ev hpl parts.toList z v zv.cells h3 hV hag
      have hm : (fs.mapM fun f => (do pure (f.offset, ← sizeOf f.type) : Sem (Nat × Nat))).run P w = .ok places w := by
        rw [Array.mapM_eq_mapM_toList]
        have := run_mapM (P := P) (w := w) (fun f => (do pure (f.offset, ← sizeOf f.type) : Sem (Nat × Nat))) (fun f => (f.offset, P.cellsOf f.type)) fs.toList (by
          intro f hf
          obtain ⟨j, hj⟩ := Option.isSome_iff_exists.1 (hinf f hf)
          rw [Sem.run_bind, run_sizeOf hj, cellsOf_eq hj]
          rfl)
        rw [Sem.run_map, this]
        show Result.ok _ w = Result.ok _ w
        congr 1
        apply Array.ext'
        simp [places]
      refine h.value (x := .agg cells') (VS.of q2 (by rw [q3]; simp [OfCells])) (exec_value (f := Instr.build T (parts.map fun (i, x) => (i, a.eval x))) (by simp only [execOp, ho]) ?_)
      have q1' : Instr.fill (places[·]?) zv.cells (parts.map fun (i, x) => (i, a.eval x)).toList = some cells' := by rw [map_parts]; exact q1
      simp only [Instr.build, Sem.run_bind, zeroValue, typeInfo, run_program, hi, Result.andThen_ok, Sem.run_pure, hzv, run_underlying hT, hm, q1']
    · simp only [eval_fail] at he
  · rename_i n e hT
    split at he
    · rename_i t ht
      obtain ⟨h1, h2⟩ := eval_guard.1 he
      obtain ⟨r, h3, h4⟩ := eval_bind.1 h2
      obtain rfl := eval_ok.1 h4
      simp only [Bool.and_eq_true, beq_iff_eq] at h1
      obtain ⟨hsz, hz⟩ := h1
      obtain ⟨g1, i1, e1, t1, f1⟩ := freezeAll_sound r.2 h
      obtain ⟨i, zv, hi, hzv, hV, hO⟩ := zchk_sound hz ((s.freezeAll r.2).env w g1 β)
      simp only [V, Rep] at hV
      obtain ⟨cells', q1, q2⟩ := setParts_fill (a := a) rfl h.objs e1 h.ev parts.toList _ r zv.cells h3 f1 hV.2
      have hlr : r.1.length = n := by
        have : ∀ (ps : List (Nat × Operand)) (l : List t.den) (r : List t.den × List Id), (setParts t s ps l).eval = some r → r.1.length = l.length := by
          intro ps
          induction ps with
          | nil => intro l r hh; obtain rfl := eval_ok.1 hh; rfl
          | cons p ps ih =>
            intro l r hh
            obtain ⟨i, x⟩ := p
            simp only [setParts] at hh
            obtain ⟨_, h2⟩ := eval_guard.1 hh
            obtain ⟨y, h3, h4⟩ := eval_bind.1 h2
            obtain ⟨r', h5, h6⟩ := eval_bind.1 h4
            obtain rfl := eval_ok.1 h6
            have := ih _ _ h5
            simpa using this
        rw [this _ _ _ h3]
        simp
      refine .inl ⟨.agg cells', w, exec_value (f := Instr.build T (parts.map fun (i, x) => (i, a.eval x))) (by simp only [execOp, ho]) ?_, g1, β, i1.put o.dst ⟨cells'.toList, ?_, by simp [OfCells, AVal.agg, Ty.agg]⟩⟩
      · have q1' : Instr.fill (fun i => some (i * t.size, t.size)) zv.cells (parts.map fun (i, x) => (i, a.eval x)).toList = some cells' := by rw [map_parts]; exact q1
        cases hie : P.info? e with
        | none =>
          -- an element type that is none of the program's takes no cells
          exfalso
          unfold tyOf at ht
          simp only [depth] at ht
          have : P.underlying e = none := by simp [Program.underlying, hie]
          rw [this] at ht
          cases ht
        | some ie =>
          have hse := run_sizeOf hie w
          rw [← cellsOf_eq hie, hsz] at hse
          simp only [Instr.build, Sem.run_bind, zeroValue, typeInfo, run_program, hi, Result.andThen_ok, Sem.run_pure, hzv, run_underlying hT, hse, q1']
      · simp only [V, Rep]
        exact ⟨hlr, q2⟩
    · simp only [eval_fail] at he
  · simp only [eval_fail] at he

/-! ### Append -/

theorem run_append_room' {T X ty e : TypeId} {i : TypeInfo} (hT : P.underlying T = some (.slice e)) (hX : P.underlying X = some .string ∨ ∃ e', P.underlying X = some (.slice e')) (hi : P.info? e = some i)
    {b sLen sCap : Nat} {cur : Array Value} (hg : w.heap[b]? = some (.cells cur e (0, 0))) {x : Value} {n : Nat} {news : List Value} (h1 : ∀ u ∈ news, u.oneCell' = true)
    (hlen : (Builtin.lenOf x).run P w = .ok n w) (hf : (Builtin.firstCells i.size n x).run P w = .ok news.toArray w) (hroom : sLen + n ≤ sCap) (hfit : sLen * i.size + news.length ≤ cur.size) :
    (Builtin.append_ #[T, X] ty #[.slice (some ⟨b, 0, none⟩) sLen sCap, x]).run P w = .ok (.slice (some ⟨b, 0, none⟩) (sLen + n) sCap) (w.setRow b (splice cur.toList (sLen * i.size) news).toArray) := by
  have hst := run_storeCells_at P b (sLen * i.size) e news 0 cur w hg (by simpa using hfit) h1
  simp only [Nat.add_zero] at hst
  rcases hX with hX | ⟨e', hX⟩ <;> simp [Builtin.append_, run_underlying hT, run_underlying hX, sizeOf, typeInfo, hi, hlen, hroom, hf, Addr.add_lit, hst, splice]

theorem run_append_nil' {T X ty e : TypeId} {i : TypeInfo} (hT : P.underlying T = some (.slice e)) (hX : P.underlying X = some .string ∨ ∃ e', P.underlying X = some (.slice e')) (hi : P.info? e = some i)
    {x : Value} (hlen : (Builtin.lenOf x).run P w = .ok 0 w) (hf : (Builtin.firstCells i.size 0 x).run P w = .ok #[] w) :
    (Builtin.append_ #[T, X] ty #[.slice none 0 0, x]).run P w = .ok (.slice none 0 0) w := by
  rcases hX with hX | ⟨e', hX⟩ <;> simp [Builtin.append_, run_underlying hT, run_underlying hX, sizeOf, typeInfo, hi, hlen, hf]

theorem run_append_grow' {T X ty e : TypeId} {i : TypeInfo} {zv : Value} (hT : P.underlying T = some (.slice e)) (hX : P.underlying X = some .string ∨ ∃ e', P.underlying X = some (.slice e')) (hi : P.info? e = some i) (hzv : i.zero = some zv)
    {ad : Option Addr} {sLen sCap : Nat} {olds : List Value} (ho : (Builtin.firstCells i.size sLen (.slice ad sLen sCap)).run P w.drew = .ok olds.toArray w.drew) {x : Value} {n : Nat} {news : List Value}
    (hlen : (Builtin.lenOf x).run P w = .ok n w) (hf : (Builtin.firstCells i.size n x).run P w.drew = .ok news.toArray w.drew) (hroom : sCap < sLen + n)
    (h63 : ((sLen + n : Nat) : Int) ≤ 9223372036854775807) (hfit : (sLen + n) * i.bytes ≤ 140737488355328) :
    (Builtin.append_ #[T, X] ty #[.slice ad sLen sCap, x]).run P w = .ok (.slice (some ⟨w.heap.size, 0, none⟩) (sLen + n) (grownCap w (sLen + n) sCap e))
      (w.drew.alloc (.cells (olds.toArray ++ news.toArray ++ Builtin.zeroCells zv.cells (grownCap w (sLen + n) sCap e - (sLen + n))) e)) := by
  have hn : ¬ (sLen + n ≤ sCap) := by omega
  have h63' : ¬ (9223372036854775807 < ((sLen : Int) + (n : Int))) := by omega
  have hfit' := growslice_fits (bytes := i.bytes) hroom hfit
  have h48' : ¬ (281474976710656 < Builtin.nextslicecap (sLen + n) sCap * i.bytes) := by omega
  rcases hX with hX | ⟨e', hX⟩
  all_goals
    simp [Builtin.append_, run_underlying hT, run_underlying hX, sizeOf, typeInfo, zeroValue, hi, hzv, hlen, hn, h63', h48', Question.forced, hf, ho, newRow, grownCap]
    congr 2
    apply Array.ext'
    simp [List.append_assoc]

end
end Go.Ab
