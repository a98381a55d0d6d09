/-
  Soundness of the operations, third part: values: numbers, tests, parts, places.
-/
import Derived.Test.YtdmpbapgnkdjpaaAb6
namespace Go.Ab

section
variable {P : Program} {C : Ctx} {g : Nat → Lab} {β : Id → Option Pl} {s : AS} {a : Act} {w : World} {o : Oper}

/-! ### Moves, tests -/

theorem move_runs (h : Inv C g β s a w) {x : Operand} (ho : o.op = .move x ∨ o.op = .assign x) : Runs P o a w (Sts C (s.put o.dst (s.ev x))) := by
  refine h.value (h.ev x) ?_
  rcases ho with ho | ho <;> simp [execOp, ho]

theorem pick_runs (h : Inv C g β s a w) {c x y : Operand} (ho : o.op = .pick c x y) {v : AVal} (he : (pickA (s.ev c) (s.ev x) (s.ev y)).eval = some v) : Runs P o a w (Sts C (s.put o.dst v)) := by
  have hc := h.ev c
  have hx := h.ev x
  have hy := h.ev y
  unfold pickA at he
  split at he
  · rename_i b hb
    rw [hb] at hc
    have hcv := bool_of hc
    have hr : (execOp a.eval o).run P w = .ok (.value (if b then a.eval x else a.eval y)) w := by
      simp [execOp, ho, hcv, asBool]
    split at he
    · rename_i bx by' hbx hby
      obtain rfl := eval_ok.1 he
      rw [hbx] at hx
      rw [hby] at hy
      refine h.value ?_ hr
      cases b
      · simpa using hy
      · simpa using hx
    · cases b with
      | true =>
        simp only [Out.eval, Option.some.injEq] at he
        subst he
        exact h.value (by simpa using hx) hr
      | false =>
        simp only [Out.eval, Option.some.injEq] at he
        subst he
        exact h.value (by simpa using hy) hr
  · simp only [eval_fail] at he

theorem nilCheck_runs (h : Inv C g β s a w) {x : Operand} (ho : o.op = .nilCheck x) {s' : AS} (he : (match s.ev x with
    | .ptr id v p n => Out.ok (s.put o.dst (.ptr id v p n))
    | .rptr t y => .ok (s.put o.dst (.rptr t y))
    | .fn f c => .ok (s.put o.dst (.fn f c))
    | _ => .fail).eval = some s') : Runs P o a w (Sts C s') := by
  have hx := h.ev x
  split at he
  · rename_i id v p n hv
    obtain rfl := eval_ok.1 he
    rw [hv] at hx
    obtain ⟨ad, hy, _⟩ := ptr_of hx
    exact h.value hx (by simp [execOp, ho, hy])
  · rename_i t y hv
    obtain rfl := eval_ok.1 he
    rw [hv] at hx
    obtain ⟨b, off, vs, hy, _⟩ := rptr_of hx
    exact h.value hx (by simp [execOp, ho, hy])
  · rename_i f c hv
    obtain rfl := eval_ok.1 he
    rw [hv] at hx
    obtain ⟨cs, hV, hO⟩ := hx.celled rfl
    simp only [V] at hV
    obtain ⟨vs, e, hc⟩ := hV
    have hO' : cs = [a.eval x] := hO
    rw [e] at hO'
    have hy : a.eval x = .func (.func f) #[] vs.toArray := by simpa using hO'.symm
    refine h.value (v := .fn f c) ⟨cs, by simp only [V]; exact ⟨vs, e, hc⟩, hO⟩ (by simp [execOp, ho, hy])
  · simp only [eval_fail] at he

/-! ### Numbers -/

theorem intOp_sound {op : BinOp} {k k' : IntKind} {x y : Int} {v : AVal} (he : (intOp op k x k' y).eval = some v) (T : TypeId) (E : Env) :
    ∃ z, (binOp op T (.int k x) (.int k' y)).run P w = .ok z w ∧ VS E v z := by
  unfold intOp at he
  have same : ∀ (hk : decide (k = k') = true), k = k' := fun hk => by simpa using hk
  cases op with
  | shl =>
    obtain ⟨h1, h2⟩ := eval_chk.1 he
    obtain rfl := eval_ok.1 h2
    have h1 : ¬ y < 0 := by simpa using h1
    exact ⟨_, by simp [binOp, Op.shift, h1], VS_int _ _⟩
  | shr =>
    obtain ⟨h1, h2⟩ := eval_chk.1 he
    obtain rfl := eval_ok.1 h2
    have h1 : ¬ y < 0 := by simpa using h1
    exact ⟨_, by simp [binOp, Op.shift, h1], VS_int _ _⟩
  | quo =>
    obtain ⟨h1, h2⟩ := eval_guard.1 he
    obtain rfl := same h1
    obtain ⟨h3, h4⟩ := eval_chk.1 h2
    obtain rfl := eval_ok.1 h4
    have h3 : y ≠ 0 := by simpa using h3
    exact ⟨_, by simp [binOp, Op.intDiv, h3], VS_int _ _⟩
  | rem =>
    obtain ⟨h1, h2⟩ := eval_guard.1 he
    obtain rfl := same h1
    obtain ⟨h3, h4⟩ := eval_chk.1 h2
    obtain rfl := eval_ok.1 h4
    have h3 : y ≠ 0 := by simpa using h3
    exact ⟨_, by simp [binOp, Op.intDiv, h3], VS_int _ _⟩
  | add | sub | mul =>
    obtain ⟨h1, h2⟩ := eval_guard.1 he
    obtain rfl := same h1
    obtain rfl := eval_ok.1 h2
    exact ⟨_, by simp [binOp, Op.intArith], VS_int _ _⟩
  | and | or | xor | andNot =>
    obtain ⟨h1, h2⟩ := eval_guard.1 he
    obtain rfl := same h1
    obtain rfl := eval_ok.1 h2
    refine ⟨_, ?_, VS_int _ _⟩
    unfold binOp Op.intBits
    simp [bitop]
  | eql | neq | lss | leq | gtr | geq =>
    obtain ⟨h1, h2⟩ := eval_guard.1 he
    obtain rfl := same h1
    obtain rfl := eval_ok.1 h2
    refine ⟨_, ?_, VS_bool _⟩
    simp [binOp, Op.intCmp]

theorem strOp_sound {op : BinOp} {x y : ByteArray} {v : AVal} (he : (strOp op x y).eval = some v) (T : TypeId) (E : Env) :
    ∃ z, (binOp op T (.string x) (.string y)).run P w = .ok z w ∧ VS E v z := by
  unfold strOp at he
  cases op <;> simp only [eval_fail] at he
  case add =>
    obtain ⟨h1, h2⟩ := eval_chk.1 he
    obtain rfl := eval_ok.1 h2
    have h1 : ¬ ((x.size + y.size : Nat) : Int) > IntKind.i64.max := by simpa using h1
    refine ⟨.string (x ++ y), ?_, VS_str _⟩
    show (Op.stringOp .add x y).run P w = _
    unfold Op.stringOp
    simp only [h1, if_false]
    rfl
  all_goals
    obtain rfl := eval_ok.1 he
    exact ⟨_, by simp [binOp, Op.stringOp], VS_bool _⟩

theorem eqGuard_plain {op : BinOp} {T : TypeId} {x y : Operand} {u v : Value} (h1 : u ≠ .nilIface) (h2 : isAggV u = false) : (eqGuard op T x y u v).run P w = .ok () w := by
  unfold eqGuard
  cases op <;> simp
  all_goals (cases u <;> simp_all [isAggV])

/-! ### Parts of structs and arrays -/

theorem isAggT_sound {T : TypeId} {b : Bool} (h : isAggT P T b = true) : ∃ i, P.info? T = some i ∧ ∀ w, (isAgg T).run P w = .ok b w := by
  unfold isAggT at h
  cases hu : P.underlying T with
  | none => rw [hu] at h; cases h
  | some d =>
    obtain ⟨i, hi⟩ := info_of hu
    refine ⟨i, hi, fun w => ?_⟩
    rw [hu] at h
    unfold isAgg
    rw [Sem.run_bind, run_underlying hu w]
    cases d <;> simp at h <;> simp [h]

theorem run_part {T : TypeId} {b : Bool} (h : isAggT P T b = true) {cs : List Value} {off n : Nat} (hn : P.cellsOf T = n) (hb : b = false → n = 1) (hl : off + n ≤ cs.length) :
    ∃ y, (part T cs.toArray off).run P w = .ok y w ∧ OfCells b ((cs.drop off).take n) y := by
  obtain ⟨i, hi, hagg⟩ := isAggT_sound h
  rw [cellsOf_eq hi] at hn
  unfold part
  rw [Sem.run_bind, hagg w]
  simp only [Result.andThen_ok]
  cases b with
  | true =>
    refine ⟨.agg ((cs.drop off).take n).toArray, ?_, rfl⟩
    simp only [if_true, Sem.run_bind, run_sizeOf hi, Result.andThen_ok, hn, Sem.run_pure]
    simp [List.extract_eq_take_drop]
  | false =>
    have h1 := hb rfl
    subst h1
    have hlt : off < cs.length := by omega
    refine ⟨cs[off], ?_, ?_⟩
    · simp [hlt]
    · show (cs.drop off).take 1 = [cs[off]]
      rw [List.drop_eq_getElem_cons hlt, List.take_succ_cons, List.take_zero]

theorem size_one_of {t : Ty} (h : t.agg = false) : t.size = 1 := by
  cases t <;> first | rfl | (simp [Ty.agg] at h)

theorem listBeq_append {α : Type} (f : α → α → Bool) (x y : α) (xs ys : List α) : listBeq f (x :: xs) (y :: ys) = (f x y && listBeq f xs ys) := rfl

/-- '==' goes by the data. -/
theorem equalIn_sound (E : Env) : ∀ (n : Nat) (T : TypeId) (t : Ty), eqChk P n T t = true → ∀ (d : Nat), n ≤ d → ∀ (cx cy : List Value) (x y : t.den) (u v : Value), Rep E t cx x → Rep E t cy y → OfCells t.agg cx u → OfCells t.agg cy v →
    (Op.equalIn d T u v).run P w = .ok (t.beq x y) w
  | 0, T, t, h, _, _, _, _, _, _, _, _, _, _, _, _ => by simp [eqChk] at h
  | n + 1, T, t, h, 0, hd, _, _, _, _, _, _, _, _, _, _ => by omega
  | n + 1, T, t, h, d + 1, hd, cx, cy, x, y, u, v, hx, hy, hu, hv => by
    simp only [eqChk] at h
    split at h
    · rename_i k k' hT
      simp only [Rep] at hx hy
      have e1 : cx = [u] := hu
      have e2 : cy = [v] := hv
      rw [hx] at e1; rw [hy] at e2
      simp only [List.cons.injEq, and_true] at e1 e2
      subst e1 e2
      rw [run_equalIn_int w d T _ _ _ _ hT]; rfl
    · rename_i hT
      simp only [Rep] at hx hy
      have e1 : cx = [u] := hu
      have e2 : cy = [v] := hv
      rw [hx] at e1; rw [hy] at e2
      simp only [List.cons.injEq, and_true] at e1 e2
      subst e1 e2
      rw [run_equalIn_bool' w d T _ _ hT]; rfl
    · rename_i hT
      simp only [Rep] at hx hy
      have e1 : cx = [u] := hu
      have e2 : cy = [v] := hv
      rw [hx] at e1; rw [hy] at e2
      simp only [List.cons.injEq, and_true] at e1 e2
      subst e1 e2
      rw [run_equalIn_string w d T _ _ hT]; rfl
    · rename_i m e m' t' hT
      simp only [Bool.and_eq_true, beq_iff_eq] at h
      obtain ⟨⟨⟨⟨rfl, hz0⟩, hsz⟩, hag⟩, hch⟩ := h
      simp only [Rep] at hx hy
      obtain ⟨hlx, hcx⟩ := hx
      obtain ⟨hly, hcy⟩ := hy
      have e1 : u = .agg cx.toArray := hu
      have e2 : v = .agg cy.toArray := hv
      subst e1 e2
      obtain ⟨i, hi, hagg⟩ := isAggT_sound hag
      have hsz' := hsz
      rw [cellsOf_eq hi] at hsz'
      simp only [Op.equalIn, Sem.run_bind, run_underlying hT, Result.andThen_ok, run_sizeOf hi, hsz']
      simp only [Std.Legacy.Range.forIn_eq_forIn_range']
      have hm : ([:m] : Std.Legacy.Range).size = m := by simp [Std.Legacy.Range.size]
      rw [hm]
      have hzz : ∀ c z, Rep E t' c z → c.length = t'.size := fun c z hz => hz.size
      have bx : t'.agg = false → t'.size = 1 := size_one_of
      have key : ∀ (k : Nat) (x y : List t'.den) (j : Nat), x.length = k → y.length = k → Chunks (Rep E t') (cx.drop (j * t'.size)) x → Chunks (Rep E t') (cy.drop (j * t'.size)) y →
          (forIn (List.range' j k) ((none, ()) : Option Bool × Unit) fun i __s => (do
            let __do_lift ← part e cx.toArray (i * t'.size)
            let __do_lift_1 ← part e cy.toArray (i * t'.size)
            let __do_lift ← Op.equalIn d e __do_lift __do_lift_1
            if (!__do_lift) = true then pure (ForInStep.done (some false, ())) else pure (ForInStep.yield (none, ())) : Sem (ForInStep (Option Bool × Unit)))).run P w = .ok (if listBeq t'.beq x y then none else some false, ()) w := by
        intro k
        induction k with
        | zero =>
          intro x y j hx hy _ _
          rw [List.length_eq_zero_iff.1 hx, List.length_eq_zero_iff.1 hy]
          rfl
        | succ k ih =>
          intro x y j hx hy hcx' hcy'
          cases x with
          | nil => simp at hx
          | cons x0 xs =>
            cases y with
            | nil => simp at hy
            | cons y0 ys =>
              have gx := Chunks.get hzz hcx' 0 (by simp)
              have gy := Chunks.get hzz hcy' 0 (by simp)
              simp only [Nat.zero_mul, List.drop_zero, List.getElem_cons_zero] at gx gy
              have lenx : ((cx.drop (j * t'.size)).take t'.size).length = t'.size := gx.size
              have leny : ((cy.drop (j * t'.size)).take t'.size).length = t'.size := gy.size
              have hz1 : t'.size ≠ 0 := by simpa using hz0
              have hjx : j * t'.size + t'.size ≤ cx.length := by simp only [List.length_take, List.length_drop] at lenx; omega
              have hjy : j * t'.size + t'.size ≤ cy.length := by simp only [List.length_take, List.length_drop] at leny; omega
              obtain ⟨ux, h1, o1⟩ := run_part (w := w) hag hsz bx (cs := cx) (off := j * t'.size) hjx
              obtain ⟨uy, h2, o2⟩ := run_part (w := w) hag hsz bx (cs := cy) (off := j * t'.size) hjy
              have h3 := equalIn_sound E n e t' hch d (by omega) _ _ x0 y0 ux uy gx gy o1 o2
              have nx : Chunks (Rep E t') (cx.drop ((j + 1) * t'.size)) xs := by
                have := Chunks.drop hzz 1 hcx'
                rw [List.drop_drop] at this
                simpa [Nat.add_mul] using this
              have ny : Chunks (Rep E t') (cy.drop ((j + 1) * t'.size)) ys := by
                have := Chunks.drop hzz 1 hcy'
                rw [List.drop_drop] at this
                simpa [Nat.add_mul] using this
              have := ih xs ys (j + 1) (by simpa using hx) (by simpa using hy) nx ny
              rw [List.range'_succ, List.forIn_cons]
              simp only [Sem.run_bind, h1, h2, h3, Result.andThen_ok, listBeq_append]
              rcases Bool.eq_false_or_eq_true (t'.beq x0 y0) with hb | hb
              · simp only [hb, Bool.not_true, Bool.false_eq_true, if_false, Sem.run_pure, Result.andThen_ok, Bool.true_and]
                exact this
              · simp only [hb, Bool.not_false, if_true, Sem.run_pure, Result.andThen_ok, Bool.false_and, Bool.false_eq_true, if_false]
      have := key m x y 0 hlx hly (by simpa using hcx) (by simpa using hcy)
      rw [this]
      show _ = Result.ok (listBeq t'.beq x y) w
      cases listBeq t'.beq x y <;> rfl
    · rename_i t0 _ _ fs hT
      simp only [Bool.and_eq_true, Bool.not_eq_true'] at h
      obtain ⟨hst, hfs⟩ := h
      have hF : P.fieldsOf T = fs := by simp [Program.fieldsOf, hT]
      have hT' : P.underlying T = some (.struct (P.fieldsOf T)) := by rw [hF]; exact hT
      have key : ∀ (fl : List Field) (t : Ty) (off : Nat), eqFs P (eqChk P n) fl t off = true → ∀ (x y : t.den), Rep E t (cx.drop off) x → Rep E t (cy.drop off) y →
          (Op.eqFields d cx.toArray cy.toArray fl).run P w = .ok (t.beq x y) w := by
        intro fl
        induction fl with
        | nil =>
          intro t off hc x y _ _
          cases t <;> first | (simp [eqFs] at hc; done) | rfl
        | cons f fl ih =>
          intro t off hc x y hx hy
          cases t <;> first | (simp [eqFs] at hc; done) | skip
          rename_i ta tb
          simp only [eqFs, Bool.and_eq_true, Bool.not_eq_true', beq_iff_eq, beq_eq_false_iff_ne] at hc
          obtain ⟨⟨⟨⟨⟨⟨hnm, hoff⟩, hz⟩, hsz⟩, hag⟩, hch⟩, hrest⟩ := hc
          simp only [Rep] at hx hy
          obtain ⟨xa, xb, ex, hxa, hxb⟩ := hx
          obtain ⟨ya, yb, ey, hya, hyb⟩ := hy
          have bx : ta.agg = false → ta.size = 1 := size_one_of
          have lx : xa.length = ta.size := hxa.size
          have ly : ya.length = ta.size := hya.size
          have split : ∀ (cs xa xb : List Value), cs.drop off = xa ++ xb → xa.length = ta.size → (cs.drop off).take ta.size = xa ∧ cs.drop (off + ta.size) = xb ∧ off + ta.size ≤ cs.length := by
            intro cs xa xb e l
            refine ⟨by rw [e]; exact List.take_left' l, by rw [← List.drop_drop, e]; exact List.drop_left' l, ?_⟩
            have := congrArg List.length e
            simp only [List.length_drop, List.length_append] at this
            omega
          obtain ⟨sx1, sx2, sx3⟩ := split cx xa xb ex lx
          obtain ⟨sy1, sy2, sy3⟩ := split cy ya yb ey ly
          obtain ⟨ux, h1, o1⟩ := run_part (w := w) hag hsz bx (cs := cx) (off := off) sx3
          obtain ⟨uy, h2, o2⟩ := run_part (w := w) hag hsz bx (cs := cy) (off := off) sy3
          rw [sx1] at o1
          rw [sy1] at o2
          have h3 := equalIn_sound E n f.type ta hch d (by omega) _ _ x.1 y.1 ux uy hxa hya o1 o2
          have h4 := ih tb (off + ta.size) hrest x.2 y.2 (by rw [sx2]; exact hxb) (by rw [sy2]; exact hyb)
          simp only [Op.eqFields, ne_eq, hnm, not_false_eq_true, if_true, Sem.run_bind, hoff, h1, h2, h3, Result.andThen_ok]
          show _ = Result.ok (ta.beq x.1 y.1 && tb.beq x.2 y.2) w
          rcases Bool.eq_false_or_eq_true (ta.beq x.1 y.1) with hb | hb
          · simp only [hb, Bool.not_true, Bool.false_eq_true, if_false, Bool.true_and]
            exact h4
          · simp [hb]
      have hag : t0.agg = true := by
        cases hl : fs.toList <;> rw [hl] at hfs <;> cases t0 <;> first | rfl | (simp [eqFs] at hfs; done)
      rw [hag] at hu hv
      have e1 : u = .agg cx.toArray := hu
      have e2 : v = .agg cy.toArray := hv
      subst e1 e2
      rw [run_equalIn_struct w d T _ _ hT' hst, hF]
      exact key fs.toList t0 0 hfs x y (by simpa using hx) (by simpa using hy)
    · cases h

end
end Go.Ab
