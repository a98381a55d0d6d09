/-
  Drawn regions, fifth part: every order gives the same state.
-/
import Derived.Test.YtdmpbapgnkdjpaaAb23
namespace Go.Ab

section
variable {P : Program} {Γ : Gam} {objs : List Nat} {ops : Array Oper}

def RunL (P : Program) (Γ : Gam) (objs : List Nat) (ops : Array Oper) (fs : Nat → Foot) : List Nat → AS → AS → Prop
  | [], s, sn => s = sn
  | i :: l, s, sn => ∃ o, ops[i]? = some o ∧ foot Γ ops s o = fs i ∧ ∃ s', gop1 P Γ objs ops o s = some s' ∧ RunL P Γ objs ops fs l s' sn

theorem RunL.bubble {fs : Nat → Foot} {i : Nat} {l2 : List Nat} {sn : AS} : ∀ (l1 : List Nat) {s : AS}, RunL P Γ objs ops fs (l1 ++ i :: l2) s sn → (∀ j ∈ l1, (fs j).indep (fs i) = true) → RunL P Γ objs ops fs (i :: (l1 ++ l2)) s sn
  | [], _, h, _ => h
  | j :: l1, s, h, hi => by
    obtain ⟨oj, h1, h2, s1, h3, h4⟩ := h
    obtain ⟨oi, h5, h6, s2, h7, h8⟩ := RunL.bubble l1 h4 fun j hj => hi j (List.mem_cons_of_mem _ hj)
    have hd := hi j (List.mem_cons_self ..)
    rw [← h2, ← h6] at hd
    obtain ⟨t1, k1, k2, k3, k4⟩ := swap h3 h7 hd
    exact ⟨oi, h5, by rw [k3, h6], t1, k1, oj, h1, by rw [k4, h2], s2, k2, h8⟩

theorem gopsD_run {R : Type} {anc : List Nat} {k : AS → Option R} {r : R} : ∀ (l : List Oper) (i : Nat) (acc : List (Nat × Foot)) (s : AS) (f0 : Nat → Foot), (∀ n o, l[n]? = some o → ops[i + n]? = some o) → (∀ x ∈ acc, f0 x.1 = x.2 ∧ x.1 < i) →
    gopsD P Γ objs ops anc i l acc s k = some r → ∃ fs sn, (∀ j, j < i → fs j = f0 j) ∧ RunL P Γ objs ops fs (List.range' i l.length) s sn ∧ k sn = some r ∧
      (∀ x ∈ acc, ∀ m, i ≤ m → m < i + l.length → (anc.getD m 0).testBit x.1 = true ∨ x.2.indep (fs m) = true) ∧ (∀ m1 m2, i ≤ m1 → m1 < m2 → m2 < i + l.length → (anc.getD m2 0).testBit m1 = true ∨ (fs m1).indep (fs m2) = true)
  | [], i, acc, s, f0, _, _, h => ⟨f0, s, fun _ _ => rfl, rfl, h, fun _ _ m h1 h2 => by simp at h2; omega, fun _ _ h1 h2 h3 => by simp at h3; omega⟩
  | o :: l, i, acc, s, f0, ho, hf, h => by
    unfold gopsD at h
    split at h
    · rename_i hall
      simp only [AS.seen_eq] at h
      obtain ⟨s', h1, h2⟩ := gop_some (k := fun s' => gopsD P Γ objs ops anc (i + 1) l ((i, foot Γ ops s o) :: acc) s' k) h
      have hacc : ∀ x ∈ (i, foot Γ ops s o) :: acc, (if x.1 = i then foot Γ ops s o else f0 x.1) = x.2 ∧ x.1 < i + 1 := fun x hx => by
        rcases List.mem_cons.1 hx with rfl | hx
        · simp
        · obtain ⟨q1, q2⟩ := hf x hx
          rw [if_neg (by omega)]
          exact ⟨q1, by omega⟩
      obtain ⟨fs, sn, g1, g2, g3, g4, g5⟩ := gopsD_run l (i + 1) ((i, foot Γ ops s o) :: acc) s' (fun n => if n = i then foot Γ ops s o else f0 n)
        (fun n o' hn => by have := ho (n + 1) o' (by simpa using hn); rw [← this]; congr 1; omega) hacc h2
      have gi : fs i = foot Γ ops s o := by rw [g1 i (by omega), if_pos rfl]
      refine ⟨fs, sn, fun j hj => by rw [g1 j (by omega), if_neg (by omega)], ?_, g3, fun x hx m h3 h4 => ?_, fun m1 m2 h3 h4 h5 => ?_⟩
      · rw [List.length_cons, List.range'_succ]
        exact ⟨o, ho 0 o rfl, gi.symm, s', h1, g2⟩
      · rcases Nat.eq_or_lt_of_le h3 with rfl | h3
        · have := List.all_eq_true.1 hall x hx
          simp only [Bool.or_eq_true] at this
          rcases this with h | h
          · exact .inl h
          · right; rw [gi]; exact h
        · exact g4 x (List.mem_cons_of_mem _ hx) m (by omega) (by simp only [List.length_cons] at h4; omega)
      · rcases Nat.eq_or_lt_of_le h3 with rfl | h3
        · rw [gi]
          exact g4 (i, foot Γ ops s o) (List.mem_cons_self ..) m2 (by omega) (by simp only [List.length_cons] at h5; omega)
        · exact g5 m1 m2 (by omega) h4 (by simp only [List.length_cons] at h5; omega)
    · cases h

/-! ### What stands before an operation -/

theorem ancF_mem {acc : List Nat} {j : Nat} : ∀ {l : List Edge}, (l.foldr (fun e m => Nat.lor (Nat.lor (Nat.pow 2 e.on) (acc.getD e.on 0)) m) 0).testBit j = true → ∃ e ∈ l, j = e.on ∨ (acc.getD e.on 0).testBit j = true
  | [], h => by simp at h
  | e :: l, h => by
    rw [List.foldr_cons, show ∀ x y, Nat.lor x y = x ||| y from fun _ _ => rfl, show ∀ x y, Nat.lor x y = x ||| y from fun _ _ => rfl, Nat.testBit_or, Nat.testBit_or, show Nat.pow 2 e.on = 2 ^ e.on from rfl, Nat.testBit_two_pow] at h
    simp only [Bool.or_eq_true, decide_eq_true_eq] at h
    rcases h with (h | h) | h
    · exact ⟨e, List.mem_cons_self .., .inl h.symm⟩
    · exact ⟨e, List.mem_cons_self .., .inr h⟩
    · obtain ⟨e', h1, h2⟩ := ancF_mem h
      exact ⟨e', List.mem_cons_of_mem _ h1, h2⟩

theorem ancs_fold : ∀ (l : List Oper) (acc : List Nat), (∀ i, i < acc.length → (l.foldl (fun acc o => acc ++ [ancF acc o]) acc)[i]? = acc[i]?) ∧
    ∀ i o, l[i]? = some o → (l.foldl (fun acc o => acc ++ [ancF acc o]) acc)[acc.length + i]? = some (ancF ((l.foldl (fun acc o => acc ++ [ancF acc o]) acc).take (acc.length + i)) o)
  | [], acc => ⟨fun _ _ => rfl, fun i o h => by simp at h⟩
  | x :: l, acc => by
    obtain ⟨h1, h2⟩ := ancs_fold l (acc ++ [ancF acc x])
    simp only [List.foldl_cons]
    refine ⟨fun i hi => ?_, fun i o hi => ?_⟩
    · rw [h1 i (by simp; omega), List.getElem?_append_left hi]
    · cases i with
      | zero =>
        simp only [List.getElem?_cons_zero, Option.some.injEq] at hi
        subst hi
        rw [Nat.add_zero, h1 _ (by simp)]
        have : (l.foldl (fun acc o => acc ++ [ancF acc o]) (acc ++ [ancF acc x])).take acc.length = acc := by
          apply List.ext_getElem?
          intro j
          rw [List.getElem?_take]
          split
          · rename_i hj
            rw [h1 j (by simp; omega), List.getElem?_append_left hj]
          · rename_i hj
            rw [List.getElem?_eq_none (by omega)]
        rw [this]
        simp
      | succ i =>
        have := h2 i o (by simpa using hi)
        simp only [List.length_append, List.length_cons, List.length_nil, Nat.zero_add] at this
        rw [show acc.length + (i + 1) = acc.length + 1 + i by omega]
        exact this

theorem ancs_mem {l : List Oper} {i : Nat} {o : Oper} (hi : l[i]? = some o) {j : Nat} (hj : ((ancs l).getD i 0).testBit j = true) : ∃ e ∈ o.after.toList, Region.binds .any e = true ∧ (j = e.on ∨ ((ancs l).getD e.on 0).testBit j = true) := by
  have h := (ancs_fold l []).2 i o hi
  have e : ancs l = l.foldl (fun acc o => acc ++ [ancF acc o]) [] := rfl
  rw [← e] at h
  simp only [List.length_nil, Nat.zero_add] at h
  rw [List.getD_eq_getElem?_getD, h] at hj
  obtain ⟨e, h1, h3⟩ := ancF_mem hj
  obtain ⟨h1, h2⟩ := List.mem_filter.1 h1
  refine ⟨e, h1, h2, h3.imp id fun h4 => ?_⟩
  rw [List.getD_eq_getElem?_getD, List.getElem?_take] at h4
  split at h4
  · rw [List.getD_eq_getElem?_getD]; exact h4
  · simp at h4

/-! ### Orders -/

def unl (n : Nat) (listed : Array Bool) : List Nat := (List.range n).filter fun i => !listed.getD i true

theorem mem_unl {n : Nat} {listed : Array Bool} {i : Nat} : i ∈ unl n listed ↔ i < n ∧ listed.getD i true = false := by simp [unl]

theorem unl_sorted (n : Nat) (listed : Array Bool) : (unl n listed).Pairwise (· < ·) := (List.pairwise_lt_range).filter _

theorem getD_set {listed : Array Bool} {i j : Nat} (d : Bool) (hi : i < listed.size) : (listed.setIfInBounds i true).getD j d = if j = i then true else listed.getD j d := by
  simp only [Array.getD_eq_getD_getElem?, Array.getElem?_setIfInBounds]
  by_cases h : i = j
  · subst h; simp [hi]
  · simp [h, Ne.symm h]

theorem unl_set {listed : Array Bool} {i : Nat} (hi : i < listed.size) {l1 l2 : List Nat} (h : unl listed.size listed = l1 ++ i :: l2) : unl listed.size (listed.setIfInBounds i true) = l1 ++ l2 := by
  have hs := unl_sorted listed.size listed
  rw [h] at hs
  obtain ⟨p1, p2, p3⟩ := List.pairwise_append.1 hs
  obtain ⟨p4, _⟩ := List.pairwise_cons.1 p2
  have e : unl listed.size (listed.setIfInBounds i true) = (unl listed.size listed).filter fun j => decide (j ≠ i) := by
    unfold unl
    rw [List.filter_filter]
    refine List.filter_congr fun j _ => ?_
    rw [getD_set true hi]
    by_cases hj : j = i
    · simp [hj]
    · simp [hj]
  rw [e, h, List.filter_append, List.filter_cons]
  have f1 : l1.filter (fun j => decide (j ≠ i)) = l1 := List.filter_eq_self.2 fun j hj => by
    have := p3 j hj i (List.mem_cons_self ..)
    simp; omega
  have f2 : l2.filter (fun j => decide (j ≠ i)) = l2 := List.filter_eq_self.2 fun j hj => by
    have := p4 j hj
    simp; omega
  rw [f1, f2]
  simp

theorem any_order {C : Ctx} (hΓ : Sound P Γ) {fs : Nat → Foot} {sn : AS} {Q : Exit → Act → World → Prop} (hE : edgesOk ops.toList = true)
    (hind : ∀ m1 m2, m1 < m2 → m2 < ops.size → ((ancs ops.toList).getD m2 0).testBit m1 = true ∨ (fs m1).indep (fs m2) = true) (hQ : ∀ a w, Sts C sn a w → Q .normal a w) :
    ∀ (fuel : Nat) (listed : Array Bool) (s : AS) (a : Act) (w : World), listed.size = ops.size → (unl ops.size listed).length = fuel →
      (∀ i, i < ops.size → listed.getD i true = true → ∀ j, ((ancs ops.toList).getD i 0).testBit j = true → listed.getD j false = true) → RunL P Γ objs ops fs (unl ops.size listed) s sn → Sts C s a w → wpAny P .any ops Q fuel listed a w := by
  have hedge : ∀ i o, ops[i]? = some o → ∀ e ∈ o.after.toList, Region.binds .any e = true → e.on < i := fun i o hi e he hb => by
    have := List.all_eq_true.1 hE (o, i) (List.mem_zipIdx_iff_getElem?.2 (by simpa using hi))
    have := List.all_eq_true.1 this e he
    simpa [hb] using this
  have hrdy : ∀ (listed : Array Bool), listed.size = ops.size → ∀ i, i ∈ Region.ready .any ops listed ↔ i ∈ unl ops.size listed ∧ ∀ o, ops[i]? = some o → ∀ e ∈ o.after.toList, Region.binds .any e = true → listed.getD e.on false = true := fun listed _ i => by
    rw [mem_unl]
    unfold Region.ready
    simp only [List.mem_filter, List.mem_range, Bool.and_eq_true, Bool.not_eq_true']
    constructor
    · rintro ⟨h1, h2, h3⟩
      refine ⟨⟨h1, h2⟩, fun o ho e he hb => ?_⟩
      rw [ho] at h3
      simp only [Option.map_some, Option.getD_some, Array.all_eq_true', Bool.or_eq_true, Bool.not_eq_true'] at h3
      rcases h3 e (by simpa using he) with h | h
      · rw [hb] at h; cases h
      · exact h
    · rintro ⟨⟨h1, h2⟩, h3⟩
      refine ⟨h1, h2, ?_⟩
      obtain ⟨o, ho⟩ : ∃ o, ops[i]? = some o := ⟨ops[i], by simp [h1]⟩
      rw [ho]
      simp only [Option.map_some, Option.getD_some, Array.all_eq_true', Bool.or_eq_true, Bool.not_eq_true']
      intro e he
      cases hb : Region.binds .any e with
      | false => exact .inl rfl
      | true => exact .inr (h3 o ho e (by simpa using he) hb)
  have hsome : ∀ (listed : Array Bool), listed.size = ops.size → Region.ready .any ops listed = [] → unl ops.size listed = [] := fun listed hs hr => by
    cases hu : unl ops.size listed with
    | nil => rfl
    | cons i l =>
      exfalso
      have hi : i ∈ unl ops.size listed := by rw [hu]; exact List.mem_cons_self ..
      have hso := unl_sorted ops.size listed
      rw [hu] at hso
      have : i ∈ Region.ready .any ops listed := (hrdy listed hs i).2 ⟨hi, fun o ho e he hb => by
        have hlt := hedge i o ho e he hb
        have hin := (mem_unl.1 hi).1
        cases hl : listed.getD e.on true with
        | false =>
          have hm : e.on ∈ unl ops.size listed := mem_unl.2 ⟨by omega, hl⟩
          rw [hu] at hm
          rcases List.mem_cons.1 hm with h | h
          · omega
          · have := (List.pairwise_cons.1 hso).1 _ h; omega
        | true =>
          have : e.on < listed.size := by omega
          simp only [Array.getD_eq_getD_getElem?, Array.getElem?_eq_getElem this, Option.getD_some] at hl ⊢
          exact hl⟩
      rw [hr] at this
      cases this
  intro fuel
  induction fuel with
  | zero =>
    intro listed s a w hs hl _ hr hst
    have hn : unl ops.size listed = [] := List.eq_nil_of_length_eq_zero hl
    refine ⟨?_, ?_⟩
    · cases hre : Region.ready .any ops listed with
      | nil => rfl
      | cons i l =>
        have : i ∈ Region.ready .any ops listed := by rw [hre]; exact List.mem_cons_self ..
        have := ((hrdy listed hs i).1 this).1
        rw [hn] at this; cases this
    · rw [hn] at hr
      have : s = sn := hr
      subst this
      exact hQ a w hst
  | succ fuel ih =>
    intro listed s a w hs hl hcl hr hst
    refine ⟨fun hre => ?_, fun i hi => ?_⟩
    · have := hsome listed hs hre
      rw [this] at hl; simp at hl
    · obtain ⟨hu, hdep⟩ := (hrdy listed hs i).1 hi
      obtain ⟨hin, hli⟩ := mem_unl.1 hu
      obtain ⟨o, ho⟩ : ∃ o, ops[i]? = some o := ⟨ops[i], by simp [hin]⟩
      obtain ⟨l1, l2, hsp⟩ := List.append_of_mem hu
      have hso := unl_sorted ops.size listed
      rw [hsp] at hso
      have hanc : ∀ j, ((ancs ops.toList).getD i 0).testBit j = true → listed.getD j false = true := fun j hj => by
        obtain ⟨e, he, hb, h | h⟩ := ancs_mem (by simpa using ho) hj
        · rw [h]; exact hdep o ho e he hb
        · have h1 := hdep o ho e he hb
          have h2 := hedge i o ho e he hb
          refine hcl e.on (by omega) ?_ j h
          have : e.on < listed.size := by omega
          simp only [Array.getD_eq_getD_getElem?, Array.getElem?_eq_getElem this, Option.getD_some] at h1 ⊢
          exact h1
      rw [hsp] at hr
      have hb := RunL.bubble l1 hr fun j hj => by
        have hlt : j < i := (List.pairwise_append.1 hso).2.2 j hj i (List.mem_cons_self ..)
        rcases hind j i hlt hin with h | h
        · have h1 := hanc j h
          have hju : j ∈ unl ops.size listed := by rw [hsp]; exact List.mem_append.2 (.inl hj)
          have h2 := (mem_unl.1 hju).2
          have : j < listed.size := by omega
          simp only [Array.getD_eq_getD_getElem?, Array.getElem?_eq_getElem this, Option.getD_some] at h1 h2
          rw [h1] at h2; cases h2
        · exact h
      obtain ⟨o', ho', hf, s', hg, hrun⟩ := hb
      obtain rfl : o = o' := by rw [ho] at ho'; simpa using ho'
      have hset : unl ops.size (listed.setIfInBounds i true) = l1 ++ l2 := by
        rw [← hs] at hsp ⊢
        exact unl_set (by omega) hsp
      refine ((gop1_runs hΓ hst hg).mono fun a' w' hst' => ih (listed.setIfInBounds i true) s' a' w' (by simpa using hs) ?_ ?_ (by rw [hset]; exact hrun) hst').wpOp ho
      · rw [hset]
        rw [hsp] at hl
        simp only [List.length_append, List.length_cons] at hl ⊢
        omega
      · intro m hm hlm j hj
        rw [getD_set false (by omega)]
        split
        · rfl
        · rw [getD_set true (by omega)] at hlm
          split at hlm
          · rename_i hmi
            subst hmi
            exact hanc j hj
          · exact hcl m hm hlm j hj

theorem region_draw {C : Ctx} (hm : P.follows .mixedOrders = true) (hΓ : Sound P Γ) {id : Nat} {R : Type} {Q : Exit → Act → World → Prop} {s : AS} {a : Act} {w : World} {k : AS → Option R} {r : R} (h : Sts C s a w) (hE : edgesOk ops.toList = true)
    (he : gopsD P Γ objs ops (ancs ops.toList) 0 ops.toList [] s k = some r) (hk : ∀ s' a' w', Sts C s' a' w' → k s' = some r → Q .normal a' w') : (Code.region id ops true).wp P Q a w := by
  obtain ⟨fs, sn, _, g2, g3, _, g5⟩ := gopsD_run ops.toList 0 [] s (fun _ => ⟨none, [], [], []⟩) (fun n o hn => by simpa using hn) (fun _ hx => by cases hx) he
  refine wp_region_any hm ?_
  obtain ⟨g, β, h⟩ := h
  have hu : unl ops.size (Array.replicate ops.size false) = List.range' 0 ops.toList.length := by
    unfold unl
    rw [List.filter_eq_self.2]
    · simp [List.range_eq_range']
    · intro i hi
      have hi : i < ops.size := by simpa using hi
      simp [Array.getD_eq_getD_getElem?, hi]
  refine any_order (objs := objs) hΓ hE (fs := fs) (sn := sn) (fun m1 m2 h1 h2 => g5 m1 m2 (Nat.zero_le _) h1 (by simpa using h2)) (fun a' w' hs => hk sn a' w' hs g3) ops.size _ s a _ (by simp) (by rw [hu]; simp) (fun i hi hl => ?_) (by rw [hu]; exact g2) ⟨g, β, h.drew⟩
  simp [Array.getD_eq_getD_getElem?, hi] at hl

end
end Go.Ab
