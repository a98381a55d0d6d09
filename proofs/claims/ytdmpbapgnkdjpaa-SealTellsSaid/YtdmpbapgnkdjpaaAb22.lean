/-
  Drawn regions, third part: every operation, continued.
-/
import Derived.Test.YtdmpbapgnkdjpaaAb21
namespace Go.Ab

section
variable {P : Program} {Γ : Gam} {objs : List Nat} {ops : Array Oper} {o : Oper} {s t : AS}

theorem Out.bind_assoc {α β γ : Type} (o : Out α) (f : α → Out β) (g : β → Out γ) : (o.bind f).bind g = o.bind fun a => (f a).bind g := by
  induction o with
  | ok a => rfl
  | fail => rfl
  | chk c r ih => simp only [Out.bind, ih]
  | get x h ih => simp only [Out.bind, ih]
  | br c x y ih1 ih2 => simp only [Out.bind, ih1, ih2]

theorem part_mem {parts : Array (Nat × Operand)} {x : Nat × Operand} (h : x ∈ parts.toList) : x.2 ∈ (parts.toList.map (·.2)).toArray.toList := List.mem_map.2 ⟨x, h, rfl⟩

theorem box_local {T : TypeId} {x : Operand} (hop : o.op = .box T x) {s' : AS} (he : (boxA P s (isObj objs o.dst) o.dst T (s.ev x)).eval = some s') : LocA P Γ objs ops o s s' := by
  have hao : ∀ t, aop P Γ objs o t = boxA P t (isObj objs o.dst) o.dst T (t.ev x) := fun t => by unfold aop; rw [hop]
  have hm : x ∈ o.op.operands.toList := by rw [hop]; simp [Op.operands]
  unfold boxA at he
  split at he
  · rename_i q hd
    split at he
    · rename_i ho
      obtain ⟨h1, h2⟩ := eval_guard.1 he
      obtain rfl := eval_ok.1 h2
      simp only [Bool.and_eq_true] at h1
      refine loc_born (ids := []) hd h1.1 (fun _ h => by cases h) fun t ht hv => ?_
      rw [hao, ht.ev hm]
      unfold boxA
      simp only [hd] at ho ⊢
      simp only [ho]
      exact eval_guard.2 ⟨by simp [hv, h1.2], eval_ok.2 rfl⟩
    · rename_i ho
      split at he
      · rename_i ty hty
        obtain ⟨h1, h2⟩ := eval_guard.1 he
        obtain ⟨y, h3, h4⟩ := eval_bind.1 h2
        obtain rfl := eval_ok.1 h4
        refine loc_frz (fun id hid => ids_in hm (shared_ids _ _ hid)) fun t ht => ?_
        rw [hao, ht.ev hm]
        unfold boxA
        simp only [hd] at ho ⊢
        simp only [ho, hty]
        refine eval_guard.2 ⟨h1, eval_bind.2 ⟨y, ?_, eval_ok.2 rfl⟩⟩
        rw [toTy_congr _ _ fun id hid => ht.sim hm hid]; exact h3
      · simp only [eval_fail] at he
  · simp only [eval_fail] at he

theorem toArr_local {T : TypeId} {x : Operand} (hop : o.op = .sliceToArrayPointer T x) {s' : AS} (he : (toArrA P s o.dst T (s.ev x)).eval = some s') : LocA P Γ objs ops o s s' := by
  have hao : ∀ t, aop P Γ objs o t = toArrA P t o.dst T (t.ev x) := fun t => by unfold aop; rw [hop]
  have hm : x ∈ o.op.operands.toList := by rw [hop]; simp [Op.operands]
  unfold toArrA at he
  split at he
  · rename_i n e hT
    split at he
    · rename_i ty hty
      obtain ⟨h1, h2⟩ := eval_guard.1 he
      obtain ⟨l, h3, h4⟩ := eval_bind.1 h2
      obtain ⟨h5, h6⟩ := eval_chk.1 h4
      obtain rfl := eval_ok.1 h6
      refine loc_frz (fun id hid => ids_in hm (shared_ids _ _ hid)) fun t ht => ?_
      rw [hao, ht.ev hm]
      unfold toArrA
      simp only [hT, hty]
      refine eval_guard.2 ⟨h1, eval_bind.2 ⟨l, ?_, eval_chk.2 ⟨h5, eval_ok.2 rfl⟩⟩⟩
      rw [toTy_congr _ _ fun id hid => ht.sim hm hid]; exact h3
    · simp only [eval_fail] at he
  · simp only [eval_fail] at he

theorem build_local {T : TypeId} {parts : Array (Nat × Operand)} (hop : o.op = .build T parts) {s' : AS} (he : (buildA P s o.dst T parts.toList).eval = some s') : LocA P Γ objs ops o s s' := by
  have hao : ∀ t, aop P Γ objs o t = buildA P t o.dst T parts.toList := fun t => by unfold aop; rw [hop]
  have hm : ∀ x ∈ parts.toList, x.2 ∈ o.op.operands.toList := fun x hx => by rw [hop]; exact part_mem hx
  unfold buildA at he
  split at he
  · rename_i fs hT
    split at he
    · rename_i z hz
      obtain ⟨h1, h2⟩ := eval_guard.1 he
      obtain ⟨v, h3, h4⟩ := eval_bind.1 h2
      obtain rfl := eval_ok.1 h4
      refine loc_put fun t ht => ?_
      rw [hao]
      unfold buildA
      simp only [hT, hz]
      refine eval_guard.2 ⟨h1, eval_bind.2 ⟨v, ?_, eval_ok.2 rfl⟩⟩
      rw [setFields_congr _ _ fun x hx => ht.ev (hm x hx)]; exact h3
    · simp only [eval_fail] at he
  · rename_i n e hT
    split at he
    · rename_i ty hty
      obtain ⟨h1, h2⟩ := eval_guard.1 he
      obtain ⟨r, h3, h4⟩ := eval_bind.1 h2
      obtain rfl := eval_ok.1 h4
      refine loc_frz (fun id hid => ?_) fun t ht => ?_
      · obtain ⟨x, hx, hi⟩ := setParts_shared _ _ _ h3 id hid
        exact ids_in (hm x hx) hi
      · rw [hao]
        unfold buildA
        simp only [hT, hty]
        refine eval_guard.2 ⟨h1, eval_bind.2 ⟨r, ?_, eval_ok.2 rfl⟩⟩
        rw [setParts_congr _ _ fun x hx => ⟨ht.ev (hm x hx), fun id hid => ht.sim (hm x hx) hid⟩]; exact h3
    · simp only [eval_fail] at he
  · simp only [eval_fail] at he

theorem buildSlice_local {T : TypeId} {n : Nat} {parts : Array (Nat × Operand)} (hop : o.op = .buildSlice T n parts) {s' : AS} (he : (buildSliceA P s (isObj objs o.dst) o.dst T n parts.toList).eval = some s') : LocA P Γ objs ops o s s' := by
  have hao : ∀ t, aop P Γ objs o t = buildSliceA P t (isObj objs o.dst) o.dst T n parts.toList := fun t => by unfold aop; rw [hop]
  have hm : ∀ x ∈ parts.toList, x.2 ∈ o.op.operands.toList := fun x hx => by rw [hop]; exact part_mem hx
  unfold buildSliceA at he
  split at he
  · rename_i e ty b q hel hd
    obtain ⟨h1, h2⟩ := eval_guard.1 he
    obtain ⟨r, h3, h4⟩ := eval_bind.1 h2
    have hsh : ∀ id ∈ r.2, id ∈ (foot Γ ops s o).rs := fun id hid => by
      obtain ⟨x, hx, hi⟩ := setParts_shared _ _ _ h3 id hid
      exact ids_in (hm x hx) hi
    have hco : ∀ t, Agree (foot Γ ops s o) s t → ∀ l, setParts ty t parts.toList l = setParts ty s parts.toList l := fun t ht l => setParts_congr _ _ fun x hx => ⟨ht.ev (hm x hx), fun id hid => ht.sim (hm x hx) hid⟩
    split at h4
    · rename_i ho
      obtain ⟨h5, h6⟩ := eval_guard.1 h4
      obtain rfl := eval_ok.1 h6
      refine loc_born hd h5 hsh fun t ht hv => ?_
      rw [hao]
      unfold buildSliceA
      simp only [hd] at ho hel ⊢
      simp only [hel, ho]
      refine eval_guard.2 ⟨h1, eval_bind.2 ⟨r, by rw [hco t ht]; exact h3, eval_guard.2 ⟨hv, eval_ok.2 rfl⟩⟩⟩
    · rename_i ho
      obtain rfl := eval_ok.1 h4
      refine loc_frz hsh fun t ht => ?_
      rw [hao]
      unfold buildSliceA
      simp only [hd] at ho hel ⊢
      simp only [hel, ho]
      exact eval_guard.2 ⟨h1, eval_bind.2 ⟨r, by rw [hco t ht]; exact h3, eval_ok.2 rfl⟩⟩
  · simp only [eval_fail] at he

theorem makeSlice_local {T : TypeId} {x y : Operand} (hop : o.op = .makeSlice T x y) {len cap : Int} (hx : (asInt (s.ev x)).eval = some len) (hy : (asInt (s.ev y)).eval = some cap) {s' : AS} (he : (makeSliceA P s o.dst T len cap).eval = some s') : LocA P Γ objs ops o s s' := by
  have hao : ∀ t, aop P Γ objs o t = (asInt (t.ev x)).bind fun l => (asInt (t.ev y)).bind fun c => makeSliceA P t o.dst T l c := fun t => by unfold aop; rw [hop]
  have hm : ∀ z, z = x ∨ z = y → z ∈ o.op.operands.toList := fun z hz => by rw [hop]; simpa [Op.operands] using hz
  unfold makeSliceA at he
  split at he
  · rename_i e ty b q hel hd
    obtain ⟨h1, h2⟩ := eval_guard.1 he
    obtain ⟨h3, h4⟩ := eval_chk.1 h2
    obtain rfl := eval_ok.1 h4
    refine loc_born (ids := []) hd h1 (fun _ h => by cases h) fun t ht hv => ?_
    rw [hao, ht.ev (hm x (.inl rfl)), ht.ev (hm y (.inr rfl))]
    refine eval_bind.2 ⟨len, hx, eval_bind.2 ⟨cap, hy, ?_⟩⟩
    unfold makeSliceA
    simp only [hel, hd]
    exact eval_guard.2 ⟨hv, eval_chk.2 ⟨h3, eval_ok.2 rfl⟩⟩
  · simp only [eval_fail] at he

theorem aop_local {s' : AS} (he : (aop P Γ objs o s).eval = some s') : LocA P Γ objs ops o s s' := by
  have he0 := he
  have one : ∀ x, o.op.operands = #[x] → ∀ t, Agree (foot Γ ops s o) s t → t.ev x = s.ev x ∧ ∀ id ∈ (s.ev x).ids, simO (t.ent id) (s.ent id) := fun x hx t ht =>
    have hm : x ∈ o.op.operands.toList := by rw [hx]; simp
    ⟨ht.ev hm, fun _ hid => ht.sim hm hid⟩
  unfold aop at he
  split at he
  · rename_i x hop
    obtain rfl := eval_ok.1 he
    refine loc_put fun t ht => ?_
    unfold aop
    rw [hop]
    simp only
    rw [(one x (by rw [hop]; rfl) t ht).1]; rfl
  · rename_i x hop
    obtain rfl := eval_ok.1 he
    refine loc_put fun t ht => ?_
    unfold aop
    rw [hop]
    simp only
    rw [(one x (by rw [hop]; rfl) t ht).1]; rfl
  · rename_i c x y hop
    refine loc_out (F := fun t => pickA (t.ev c) (t.ev x) (t.ev y)) (fun t => by unfold aop; rw [hop]) (fun t ht => ?_) he0
    rw [ht.ev (by rw [hop]; simp [Op.operands]), ht.ev (by rw [hop]; simp [Op.operands]), ht.ev (by rw [hop]; simp [Op.operands])]
  · rename_i T hop
    split at he
    · rename_i z q hz hq
      obtain ⟨h1, h2⟩ := eval_guard.1 he
      obtain rfl := eval_ok.1 h2
      simp only [Bool.and_eq_true] at h1
      refine loc_born (ids := []) hq h1.1 (fun _ h => by cases h) fun t ht hv => ?_
      unfold aop
      rw [hop]
      simp only [hz, hq]
      exact eval_guard.2 ⟨by simp [hv, h1.2], eval_ok.2 rfl⟩
    · exact (eval_fail.1 he).elim
  · rename_i T x hop
    exact box_local hop he
  · rename_i T parts hop
    exact build_local hop he
  · rename_i T n parts hop
    exact buildSlice_local hop he
  · rename_i T x hop
    refine loc_out (F := fun t => loadA P t T (t.ev x)) (fun t => by unfold aop; rw [hop]) (fun t ht => ?_) he0
    obtain ⟨h1, h2⟩ := one x (by rw [hop]; rfl) t ht
    rw [h1, loadA_congr h2]
  · rename_i T x v hop
    obtain ⟨s1, h1, h2⟩ := eval_bind.1 he
    obtain rfl := eval_ok.1 h2
    obtain ⟨id, e0, e, hid, hs, rfl, hl⟩ := storeA_local h1
    refine loc_set hs ?_ fun t ht hte => ?_
    · show id ∈ writes Γ s o
      unfold writes
      rw [hop]
      simp only [hid, List.mem_singleton]
    · unfold aop
      rw [hop]
      simp only
      rw [ht.ev (x := x) (by rw [hop]; simp [Op.operands]), ht.ev (x := v) (by rw [hop]; simp [Op.operands])]
      exact eval_bind.2 ⟨_, hl t hte, eval_ok.2 rfl⟩
  · rename_i x hop
    split at he
    · rename_i id v p n hx
      obtain rfl := eval_ok.1 he
      refine loc_put fun t ht => ?_
      unfold aop
      rw [hop]
      simp only [(one x (by rw [hop]; rfl) t ht).1, hx]; rfl
    · rename_i ty y hx
      obtain rfl := eval_ok.1 he
      refine loc_put fun t ht => ?_
      unfold aop
      rw [hop]
      simp only [(one x (by rw [hop]; rfl) t ht).1, hx]; rfl
    · rename_i f c hx
      obtain rfl := eval_ok.1 he
      refine loc_put fun t ht => ?_
      unfold aop
      rw [hop]
      simp only [(one x (by rw [hop]; rfl) t ht).1, hx]; rfl
    · exact (eval_fail.1 he).elim
  · rename_i op T x y U hop
    refine loc_out (F := fun t => binA P T op (t.ev x) (t.ev y)) (fun t => by unfold aop; rw [hop]) (fun t ht => ?_) he0
    rw [ht.ev (by rw [hop]; simp [Op.operands]), ht.ev (by rw [hop]; simp [Op.operands])]
  · rename_i op T x hop
    refine loc_out (F := fun t => unA op (t.ev x)) (fun t => by unfold aop; rw [hop]) (fun t ht => ?_) he0
    rw [(one x (by rw [hop]; rfl) t ht).1]
  · rename_i T U x hop
    split at he
    · rename_i id ver len hTU hx
      unfold convK at he
      split at he
      · rename_i v e0 l e hob hD
        split at he
        · rename_i hE
          obtain ⟨h1, h2⟩ := eval_guard.1 he
          obtain ⟨h3, h4⟩ := eval_chk.1 h2
          obtain rfl := eval_ok.1 h4
          refine loc_set (obj_some hob) ?_ fun t ht hte => ?_
          · show id ∈ writes Γ s o
            unfold writes
            rw [hop]
            simp only [hTU, hx]
            simp [AVal.ids]
          · have hob' : t.obj id = some (v, false, .vec e0 (.int .u8) l) := by simp only [AS.obj, hte]; exact hob
            unfold aop
            rw [hop]
            simp only [hTU, (one x (by rw [hop]; rfl) t ht).1, hx]
            unfold convK
            simp only [hob', hD, hE]
            exact eval_guard.2 ⟨h1, eval_chk.2 ⟨h3, eval_ok.2 rfl⟩⟩
        · exact (eval_fail.1 he).elim
      · exact (eval_fail.1 he).elim
    · rename_i hne
      obtain ⟨v, h1, h2⟩ := eval_bind.1 he
      obtain rfl := eval_ok.1 h2
      refine loc_put fun t ht => ?_
      obtain ⟨h3, h4⟩ := one x (by rw [hop]; rfl) t ht
      unfold aop
      rw [hop]
      simp only [h3]
      exact eval_bind.2 ⟨v, by rw [convA_congr h4]; exact h1, rfl⟩
  · rename_i T x hop
    exact toArr_local hop he
  · rename_i f first caps hop
    obtain ⟨h1, h2⟩ := eval_guard.1 he
    obtain rfl := eval_ok.1 h2
    refine loc_put fun t ht => ?_
    have hc : capsOf t caps.toList = capsOf s caps.toList := capsOf_congr _ fun x hx => ht.ev (by rw [hop]; simp only [Op.operands, Array.toList_append]; exact List.mem_append.2 (.inr hx))
    unfold aop
    rw [hop]
    simp only [hc]
    exact eval_guard.2 ⟨h1, eval_ok.2 rfl⟩
  · rename_i T l c hop
    obtain ⟨n, h1, h2⟩ := eval_bind.1 he
    obtain ⟨m, h3, h4⟩ := eval_bind.1 h2
    exact makeSlice_local hop h1 h3 h4
  · rename_i T x lo hi hop
    refine loc_out (F := fun t => sliceA P t T (t.ev x) lo hi) (fun t => by unfold aop; rw [hop]) (fun t ht => ?_) he0
    have hm : ∀ z, (z = x ∨ lo = some z ∨ hi = some z) → z ∈ o.op.operands.toList := fun z hz => by
      rw [hop]
      simp only [Op.operands, Array.toList_append, List.mem_append]
      rcases hz with rfl | rfl | rfl
      · left; left; left; simp
      · left; left; right; simp
      · left; right; simp
    have hx := hm x (.inl rfl)
    rw [ht.ev hx]
    exact sliceA_congr (fun id hid => ht.sim hx hid) (fun y hy => ht.ev (hm y (.inr (.inl hy)))) (fun y hy => ht.ev (hm y (.inr (.inr hy))))
  · rename_i T x f hop
    refine loc_out (F := fun t => fieldAddrA P T (t.ev x) f) (fun t => by unfold aop; rw [hop]) (fun t ht => ?_) he0
    rw [(one x (by rw [hop]; rfl) t ht).1]
  · rename_i T x f hop
    refine loc_out (F := fun t => fieldA P T (t.ev x) f) (fun t => by unfold aop; rw [hop]) (fun t ht => ?_) he0
    rw [(one x (by rw [hop]; rfl) t ht).1]
  · rename_i T x i hop
    refine loc_out (F := fun t => (asInt (t.ev i)).bind fun i => indexAddrA P t T (t.ev x) i) (fun t => by unfold aop; rw [hop, Out.bind_assoc]) (fun t ht => ?_) he0
    have hx : x ∈ o.op.operands.toList := by rw [hop]; simp [Op.operands]
    rw [ht.ev (x := i) (by rw [hop]; simp [Op.operands]), ht.ev hx]
    congr 1
    funext i
    exact indexAddrA_congr fun id hid => ht.sim hx hid
  · rename_i T x i hop
    refine loc_out (F := fun t => (asInt (t.ev i)).bind fun i => indexA P T (t.ev x) i) (fun t => by unfold aop; rw [hop, Out.bind_assoc]) (fun t ht => ?_) he0
    rw [ht.ev (x := i) (by rw [hop]; simp [Op.operands]), ht.ev (x := x) (by rw [hop]; simp [Op.operands])]
  · rename_i x i hop
    refine loc_out (F := fun t => Out.opt ((t.ev x).list[i]?)) (fun t => by unfold aop; rw [hop]) (fun t ht => ?_) he0
    rw [(one x (by rw [hop]; rfl) t ht).1]
  · rename_i c hop
    obtain ⟨cal, args, tys⟩ := c
    simp only at he
    split at he
    · split at he
      · rename_i x T ha ht'
        refine loc_out (F := fun t => lenA P T (t.ev x)) (fun t => by unfold aop; rw [hop]; simp only [ha, ht']) (fun t ht => ?_) he0
        rw [ht.ev (by rw [hop]; simp only [Op.operands, Call.operands, List.nil_append, Array.toList_append, ha]; simp)]
      · exact (eval_fail.1 he).elim
    · split at he
      · rename_i x y T X ha ht'
        exact append_local hop rfl ha ht' he
      · exact (eval_fail.1 he).elim
    · rename_i F _
      split at he
      · rename_i f caps hF
        split at he
        · rename_i en hen
          exact call_local hop rfl hF hen he
        · exact (eval_fail.1 he).elim
      · exact (eval_fail.1 he).elim
    · exact (eval_fail.1 he).elim
  · exact (eval_fail.1 he).elim

end
end Go.Ab
