/-
  The abstract machine, a part.
-/
import Derived.Test.YtglpcfdjdabdnaaAb29
import Derived.ProofKit
import Derived.OpenShut
import Derived.Deep.Slices
import Derived.Carry

/-
  What a claim's reading says of an argument: data.
-/
namespace Go.Ab
open Go.ChangeShapes Go.WideShapes Go.ChangeAt Go.RowKit Go.Deep

/-- What is known of data that was read. -/
def Rng : (t : Ty) → t.den → Prop
  | .int k, x => (Lit.int k x).wf = true
  | .bool, _ => True
  | .str, s => (s : ByteArray).size ≤ maxLen
  | .slice t, l => (l : List t.den).length ≤ maxLen ∧ ∀ x ∈ (l : List t.den), Rng t x
  | .unit, _ => True
  | .pair a b, x => Rng a x.1 ∧ Rng b x.2
  | .arr n t, l => (l : List t.den).length = n ∧ ∀ x ∈ (l : List t.den), Rng t x

/-- Fields, one behind the other. -/
def fieldsTy (P : Program) (rd : TypeId → Ty → Bool) : Nat → List Field → Ty → Bool
  | _, [], .unit => true
  | off, f :: fs, .pair a b => Nat.beq f.offset off && (rd f.type a && (Nat.beq (P.cellsOf f.type) a.size && fieldsTy P rd (off + a.size) fs b))
  | _, _, _ => false

/-- Does data of a type of the program lie as such data? -/
def readTy (P : Program) : Nat → TypeId → Ty → Bool
  | 0, _, _ => false
  | n + 1, T, ty =>
    match P.underlying T, ty with
    | some (.int k), .int k' => decide (k = k')
    | some .bool, .bool => true
    | some .string, .str => true
    | some (.slice e), .slice t => readTy P n e t && Nat.beq (P.cellsOf e) t.size
    | some (.array k e), .arr k' t => Nat.beq k k' && (readTy P n e t && (Nat.beq (P.cellsOf e) t.size && Nat.beq (P.cellsOf T) (k * t.size)))
    | some (.struct fs), ty => fieldsTy P (readTy P n) 0 fs.toList ty && Nat.beq (P.cellsOf T) ty.size
    | _, _ => false

theorem beqN {a b : Nat} : (Nat.beq a b = true) = (a = b) := propext ⟨Nat.eq_of_beq_eq_true, fun h => by subst h; exact Nat.beq_refl a⟩

theorem mapM_get {α β : Type} {f : α → Option β} : ∀ {l : List α} {r : List β}, l.mapM f = some r → r.length = l.length ∧ ∀ (i : Nat) (x : α), l[i]? = some x → f x = r[i]?
  | [], r, h => by
    simp only [List.mapM_nil, Option.pure_def, Option.some.injEq] at h
    subst h
    exact ⟨rfl, fun i x h => by simp at h⟩
  | y :: l, r, h => by
    simp only [List.mapM_cons, Option.bind_eq_bind, Option.pure_def, Option.bind_eq_some_iff, Option.some.injEq] at h
    obtain ⟨b, hb, r', hr, rfl⟩ := h
    obtain ⟨h1, h2⟩ := mapM_get hr
    refine ⟨by simp [h1], fun i x hi => ?_⟩
    cases i with
    | zero =>
      simp only [List.getElem?_cons_zero, Option.some.injEq] at hi
      subst hi
      simpa using hb
    | succ i =>
      simp only [List.getElem?_cons_succ] at hi ⊢
      exact h2 i x hi

theorem cells_get {w : World} {base : Nat} {a : Addr} {n : Nat} {cs : List Value} (h : w.cells? base a n = some cs) : cs.length = n ∧ ∀ i, i < n → w.cell? (a.add i) = cs[i]? := by
  unfold World.cells? at h
  split at h
  · obtain ⟨h1, h2⟩ := mapM_get h
    exact ⟨by simpa using h1, fun i hi => h2 i i (by simp [hi])⟩
  · cases h

theorem add_add (a : Addr) (x y : Nat) : (a.add x).add y = a.add (x + y) := by
  unfold Addr.add
  by_cases hx : x = 0 <;> by_cases hy : y = 0 <;> simp [hx, hy, Nat.add_assoc]

theorem spot_none {w : World} {a : Addr} {v : Value} (h : w.cell? a = some v) : a.spot = none := by
  unfold World.cell? at h
  split at h
  · split at h
    · cases h
    · rename_i hs
      cases hh : a.spot with
      | none => rfl
      | some _ => simp [hh] at hs
  · cases h

theorem row_at {E : Env} (hg : ∀ b, E.g b = .free) {a : Addr} {vs : List Value} (h : ∀ i, i < vs.length → E.w.cell? (a.add i) = vs[i]?) : RowAt E (some a) vs := by
  intro i v hv
  have hi : i < vs.length := (List.getElem?_eq_some_iff.1 hv).1
  have h0 := h 0 (by omega)
  rw [List.getElem?_eq_getElem (by omega)] at h0
  have hs : a.spot = none := spot_none (a := a) (by simpa [Addr.add] using h0)
  obtain ⟨b, off, sp⟩ := a
  simp only at hs
  subst hs
  refine ⟨b, off, rfl, ?_, ?_⟩
  · have := h i hi
    rw [hv] at this
    rw [← this]
    unfold Addr.add
    split
    · rename_i h; subst h; rfl
    · rfl
  · unfold okAt
    rw [hg b]
    trivial

section
variable {H : Type} {enc : TypeId × Value → H} {P : Program} {base : Nat} {spare : Nat → Bool} {held : Bool} {E : Env}

/-- Elements, one behind the other. -/
theorem rows_of {t : Ty} {R : List Value → t.den → Prop} {G : t.den → Prop} {w : World} {a : Addr} {z : Nat} (hR : ∀ c x, R c x → c.length = z) : ∀ (len : Nat), (∀ i, i < len → ∃ c x, R c x ∧ G x ∧ ∀ j, j < z → w.cell? (a.add (i * z + j)) = c[j]?) →
    ∃ (vs : List Value) (l : List t.den), vs.length = len * z ∧ l.length = len ∧ (∀ i, i < vs.length → w.cell? (a.add i) = vs[i]?) ∧ Chunks R vs l ∧ ∀ x ∈ l, G x
  | 0, _ => ⟨[], [], by simp, rfl, fun i h => by simp at h, rfl, fun _ h => by cases h⟩
  | len + 1, h => by
    obtain ⟨vs, l, h1, h2, h3, h4, h5⟩ := rows_of hR len fun i hi => h i (by omega)
    obtain ⟨c, x, g1, g2, g3⟩ := h len (by omega)
    have hc := hR c x g1
    refine ⟨vs ++ c, l ++ [x], by rw [List.length_append, h1, hc, Nat.add_mul, Nat.one_mul], by rw [List.length_append, h2]; rfl, fun i hi => ?_, Chunks.append h4 ⟨c, [], by simp, g1, rfl⟩, fun y hy => ?_⟩
    · rw [List.length_append, h1, hc] at hi
      by_cases hl : i < vs.length
      · rw [h3 i hl, List.getElem?_append_left hl]
      · rw [List.getElem?_append_right (by omega), h1, ← g3 (i - len * z) (by omega), show len * z + (i - len * z) = i by omega]
    · rcases List.mem_append.1 hy with hy | hy
      · exact h5 y hy
      · rw [List.mem_singleton.1 hy]; exact g2

/-- Elements in a row of cells. -/
theorem chunks_of {t : Ty} {R : List Value → t.den → Prop} {G : t.den → Prop} {z : Nat} : ∀ (n : Nat) (cs : List Value), cs.length = n * z → (∀ i, i < n → ∃ x, R ((cs.drop (i * z)).take z) x ∧ G x) →
    ∃ l : List t.den, l.length = n ∧ Chunks R cs l ∧ ∀ x ∈ l, G x
  | 0, cs, h, _ => ⟨[], rfl, List.eq_nil_of_length_eq_zero (by simpa using h), fun _ h => by cases h⟩
  | n + 1, cs, h, hi => by
    obtain ⟨x, g1, g2⟩ := hi 0 (by omega)
    obtain ⟨l, h1, h2, h3⟩ := chunks_of (R := R) (G := G) (z := z) n (cs.drop z) (by rw [List.length_drop, h, Nat.add_mul]; omega) fun i hin => by
      obtain ⟨y, k1, k2⟩ := hi (i + 1) (by omega)
      refine ⟨y, ?_, k2⟩
      rw [List.drop_drop, show z + i * z = (i + 1) * z by rw [Nat.add_mul]; omega]
      exact k1
    refine ⟨x :: l, by simp [h1], ⟨cs.take z, cs.drop z, (List.take_append_drop z cs).symm, by simpa using g1, h2⟩, fun y hy => ?_⟩
    rcases List.mem_cons.1 hy with rfl | hy
    · exact g2
    · exact h3 y hy

theorem read_fields {rd : TypeId → Ty → Bool} {cs : List Value} : ∀ (fs : List Field) (off : Nat) (ty : Ty), fieldsTy P rd off fs ty = true → off + ty.size ≤ cs.length →
    (∀ f ∈ fs, ∀ t, rd f.type t = true → P.cellsOf f.type = t.size → ∃ v, Rep E t ((cs.drop f.offset).take (P.cellsOf f.type)) v ∧ Rng t v) → ∃ v, Rep E ty ((cs.drop off).take ty.size) v ∧ Rng ty v
  | [], off, ty, h, hl, _ => by
    cases ty <;> simp only [fieldsTy] at h <;> first | cases h | skip
    exact ⟨(), by simp [Rep, Ty.size], trivial⟩
  | f :: fs, off, ty, h, hl, hf => by
    cases ty <;> simp only [fieldsTy] at h <;> first | cases h | skip
    rename_i a b
    simp only [Bool.and_eq_true, beqN] at h
    obtain ⟨h1, h2, h3, h4⟩ := h
    have hl : off + (a.size + b.size) ≤ cs.length := hl
    obtain ⟨v, k1, k2⟩ := hf f (List.mem_cons_self ..) a h2 h3
    obtain ⟨u, k3, k4⟩ := read_fields fs (off + a.size) b h4 (by omega) fun f' hf' => hf f' (List.mem_cons_of_mem _ hf')
    refine ⟨(v, u), ⟨(cs.drop off).take a.size, (cs.drop (off + a.size)).take b.size, ?_, ?_, k3⟩, k2, k4⟩
    · rw [show Ty.size (.pair a b) = a.size + b.size from rfl, List.take_add, List.drop_drop]
    · rw [h1, h3] at k1; exact k1

theorem read_rep (hg : ∀ b, E.g b = .free) : ∀ (n : Nat) (T : TypeId) (ty : Ty), readTy P n T ty = true → ∀ {fuel : Nat} {cs : List Value} {x : DataW H × List MemPlace}, DataW.trod enc P E.w base spare held fuel T cs = some x → ∃ v, Rep E ty cs v ∧ Rng ty v
  | 0, _, _, h, _, _, _, _ => by simp [readTy] at h
  | n + 1, T, ty, h, fuel, cs, x, hx => by
    unfold readTy at h
    split at h
    · rename_i k k' hu
      obtain rfl := of_decide_eq_true h
      obtain ⟨m, rfl, _, hw⟩ := DataW.trod_int hu hx
      exact ⟨m, rfl, hw⟩
    · rename_i hu
      obtain ⟨b, rfl, _⟩ := DataW.trod_bool hu hx
      exact ⟨b, rfl, trivial⟩
    · rename_i hu
      obtain ⟨s, rfl, _, hs⟩ := DataW.trod_string hu hx
      exact ⟨s, rfl, hs⟩
    · rename_i e t hu
      simp only [Bool.and_eq_true, beqN] at h
      obtain ⟨h1, h2⟩ := h
      rcases open_slice hu hx with ⟨rfl, _⟩ | ⟨a, len, cap, m, f, D, Pl, rfl, _, hl, hm, hmm, _, he⟩
      · exact ⟨([] : List t.den), ⟨none, 0, [], rfl, Nat.le_refl _, fun h => by simp at h, fun i v hv => by simp at hv, rfl⟩, Nat.zero_le _, fun _ h => by cases h⟩
      · have hlm : len ≤ m := by rw [hmm]; split <;> omega
        obtain ⟨vs, l, k1, k2, k3, k4, k5⟩ := rows_of (t := t) (R := Rep E t) (G := Rng t) (w := E.w) (a := a) (z := t.size) (fun c x h => Rep.size h) len fun i hi => by
          obtain ⟨cs', g1, g2⟩ := he i (by omega)
          obtain ⟨v, g3, g4⟩ := read_rep hg n e t h1 g2
          obtain ⟨g5, g6⟩ := cells_get g1
          refine ⟨cs', v, g3, g4, fun j hj => ?_⟩
          rw [← g6 j (by omega), add_add, h2]
        refine ⟨l, ⟨some a, cap, vs, by rw [k2], by rw [k2]; exact hl, fun _ => rfl, row_at hg k3, k4⟩, by rw [k2]; omega, k5⟩
    · rename_i k e k' t hu
      simp only [Bool.and_eq_true, beqN] at h
      obtain ⟨rfl, h1, h2, h3⟩ := h
      obtain ⟨xs, m, rfl, _, hl, hxl, he⟩ := DataW.trod_array hu hx
      obtain ⟨l, k1, k2, k3⟩ := chunks_of (t := t) (R := Rep E t) (G := Rng t) (z := t.size) k cs (by rw [hl, h3]) fun i hi => by
        have := he i hi
        rw [List.getElem?_eq_getElem (by omega), h2] at this
        exact read_rep hg n e t h1 this
      exact ⟨l, ⟨k1, k2⟩, k1, k3⟩
    · rename_i ty fs hu
      simp only [Bool.and_eq_true, beqN] at h
      obtain ⟨h1, h2⟩ := h
      obtain ⟨xs, m, rfl, _, hl, hxl, he⟩ := DataW.trod_struct hu hx
      obtain ⟨v, k1, k2⟩ := read_fields (E := E) (cs := cs) fs.toList 0 _ h1 (by rw [hl, h2]; omega) fun f hf t ht hc => by
        obtain ⟨i, hi, hfi⟩ := List.mem_iff_getElem.1 hf
        have hi' : i < fs.size := by simpa using hi
        have := he i f (by rw [← hfi]; simp [hi'])
        rw [List.getElem?_eq_getElem (by omega)] at this
        exact read_rep hg n f.type t ht this
      refine ⟨v, ?_, k2⟩
      rwa [List.drop_zero, List.take_of_length_le (by omega)] at k1
    · cases h
end
end Go.Ab

/-
  From what a function does to a claim's row: every argument reads behind the call as it read before.
-/
namespace Go.Ab
open Go.ChangeShapes Go.WideShapes Go.ChangeAt Go.RowKit Go.Deep

section
variable {H : Type} {enc : TypeId × Value → H} {P : Program} {base b0 : Nat} {spare : Nat → Bool} {held : Bool} {E : Env} {W : World}

theorem fields_agg {rd : TypeId → Ty → Bool} {fs : List Field} {off : Nat} {ty : Ty} (h : fieldsTy P rd off fs ty = true) : ty.agg = true := by
  cases fs <;> cases ty <;> first | rfl | (simp [fieldsTy] at h)

theorem read_arg (hw : E.w = W) (hg : ∀ b, E.g b = .free) {n : Nat} {t : TypeId} {ty : Ty} (h : readTy P n t ty = true) {v : Value} {d : DataW H} {ps : List MemPlace} (hval : Value.okWide P W .any base t v) (hd : DataW.Trod enc P W b0 spare held t v d ps) :
    ∃ x : ty.den, VS E (.d ty x) v ∧ Rng ty x := by
  subst hw
  obtain ⟨fuel, hf⟩ := hd
  obtain ⟨x, h1, h2⟩ := read_rep hg n t ty h hf
  refine ⟨x, ⟨v.cells.toList, h1, ?_⟩, h2⟩
  cases n with
  | zero => simp [readTy] at h
  | succ n =>
    unfold readTy at h
    split at h
    · rename_i k k' hu
      obtain ⟨m, rfl⟩ := okWide_int hu hval
      rfl
    · rename_i hu
      obtain ⟨m, rfl⟩ := okWide_bool hu hval
      rfl
    · rename_i hu
      obtain ⟨m, rfl⟩ := okWide_string hu hval
      rfl
    · rename_i hu
      obtain ⟨a, len, cap, rfl⟩ := okWide_slice hu hval
      rfl
    · rename_i hu
      simp only [Value.okWide, hu] at hval
      obtain ⟨cs, rfl, _⟩ := hval
      show _ = _
      simp [Value.cells]
    · rename_i fs hu
      simp only [Value.okWide, hu] at hval
      obtain ⟨cs, rfl, _⟩ := hval
      simp only [Bool.and_eq_true] at h
      have := fields_agg h.1
      simp only [AVal.agg, this, OfCells, Value.cells, Array.toArray_toList]
    · cases h

/-- Data of several types. -/
def DV : List Ty → Type
  | [] => Unit
  | t :: ts => t.den × DV ts
def DV.vals : (ts : List Ty) → DV ts → List AVal
  | [], _ => []
  | t :: ts, x => .d t x.1 :: DV.vals ts x.2
def DV.rng : (ts : List Ty) → DV ts → Prop
  | [], _ => True
  | t :: ts, x => Rng t x.1 ∧ DV.rng ts x.2
def readTys (P : Program) (n : Nat) : List TypeId → List Ty → Bool
  | [], [] => true
  | T :: Ts, t :: ts => readTy P n T t && readTys P n Ts ts
  | _, _ => false

theorem read_args (hw : E.w = W) (hg : ∀ b, E.g b = .free) {n : Nat} : ∀ {Ts : List TypeId} {ts : List Ty} {vs : List Value} {ds : List (DataW H)} {ps : List MemPlace}, readTys P n Ts ts = true →
    (∀ (j : Nat) t v, Ts[j]? = some t → vs[j]? = some v → Value.okWide P W .any base t v) → DataW.TrodAll enc P W b0 spare held Ts vs ds ps → ∃ x : DV ts, VSs E (DV.vals ts x) vs ∧ DV.rng ts x
  | [], [], vs, ds, ps, _, _, h => by
    obtain ⟨rfl, rfl, rfl⟩ := trodAll_nil h
    exact ⟨(), trivial, trivial⟩
  | T :: Ts, [], _, _, _, h, _, _ => by simp [readTys] at h
  | [], t :: ts, _, _, _, h, _, _ => by simp [readTys] at h
  | T :: Ts, t :: ts, vs, ds, ps, h, hval, hd => by
    simp only [readTys, Bool.and_eq_true] at h
    obtain ⟨v, vs', d, ds', p, q, rfl, rfl, rfl, h1, h2⟩ := trodAll_cons hd
    obtain ⟨x, k1, k2⟩ := read_arg hw hg h.1 (hval 0 T v rfl rfl) h1
    obtain ⟨y, k3, k4⟩ := read_args hw hg h.2 (fun j t v hj hv => hval (j + 1) t v (by simpa using hj) (by simpa using hv)) h2
    exact ⟨(x, y), ⟨k1, k3⟩, ⟨k2, k4⟩⟩

/-- Types that can be read. -/
def readableAll (P : Program) (Ts : List TypeId) : Bool := Ts.all fun t => P.readableRec t && decide (t < P.types.size)

theorem trodAll_stays (hl : laidOutB P = true) {W' : World} (hb : Below W.heap.size W W') (sp : Nat → Bool) : ∀ {Ts : List TypeId} {vs : List Value} {ds : List (DataW H)} {ps : List MemPlace}, readableAll P Ts = true → (∀ p ∈ ps, p.block < W.heap.size) → (∀ p ∈ ps, sp p.block = true) →
    DataW.TrodAll enc P W 0 (fun _ => true) true Ts vs ds ps → DataW.TrodAll enc P W' 0 sp true Ts vs ds ps
  | [], vs, ds, ps, _, _, _, h => by
    obtain ⟨rfl, rfl, rfl⟩ := trodAll_nil h
    exact trodAll_mk0
  | T :: Ts, vs, ds, ps, hr, hlt, hs, h => by
    obtain ⟨v, vs', d, ds', p, q, rfl, rfl, rfl, h1, h2⟩ := trodAll_cons h
    simp only [readableAll, List.all_cons, Bool.and_eq_true, decide_eq_true_eq] at hr
    have h3 := WideElems.Trod_stays hl hr.1.1 hr.1.2 h1 (fun x hx => hb.same (hlt x (List.mem_append.2 (.inl hx)))) (fun x hx => hs x (List.mem_append.2 (.inl hx)))
    exact ⟨p, q, h3, trodAll_stays hl hb sp (by simpa [readableAll] using hr.2) (fun x hx => hlt x (List.mem_append.2 (.inr hx))) (fun x hx => hs x (List.mem_append.2 (.inr hx))) h2, rfl⟩
end

theorem trodAll_length {H : Type} {enc : TypeId × Value → H} {P : Program} {W : World} {b0 : Nat} {spare : Nat → Bool} {held : Bool} : ∀ {Ts : List TypeId} {vs : List Value} {ds : List (DataW H)} {ps : List MemPlace}, DataW.TrodAll enc P W b0 spare held Ts vs ds ps → ds.length = Ts.length
  | [], _, _, _, h => by
    obtain ⟨_, rfl, _⟩ := trodAll_nil h
    rfl
  | _ :: _, _, _, _, h => by
    obtain ⟨v, vs', d, ds', p, q, rfl, rfl, rfl, h1, h2⟩ := trodAll_cons h
    simp [trodAll_length h2]

/-- The row's part behind the call, where every block that was there is as it was. -/
theorem post_of_old {H : Type} {enc : TypeId × Value → H} {P : Program} {f : Func} {s : ChangeSpec} {W W' : World} {args : Array Value} {v : Value} {ds gs : List (DataW H)} {before : List MemPlace} {tb : TypeId}
    (hl : laidOutB P = true) (hra : readableAll P f.params.toList = true) (hvars : s.vars = []) (htb : f.resultTypes = #[tb]) (hub : P.underlying tb = some .bool)
    (hW : DataW.Whole enc P f.params.toList s.vars false W args.toList ds gs before) (hfn : s.fn H (ds ++ gs) = { results := [.lit (.bool true)], args := ds }) (hb : Below W.heap.size W W') (hv : v = .bool true) :
    s.post enc P f false true false false W args v W' := by
  subst hv
  have hW' := hW
  have hold : ∀ p ∈ before, (fun b => decide (b < W.heap.size)) p.block = true := fun p hp => by simpa using hW.lt p hp
  obtain ⟨p, q, hA, hV, rfl, hz, _⟩ := hW
  rw [hvars] at hV
  obtain ⟨rfl, rfl⟩ := trodVars_none hV
  have hlt : ∀ x ∈ p, x.block < W.heap.size := fun x hx => hW'.lt x (List.mem_append.2 (.inl hx))
  have hargs : ∀ sp : Nat → Bool, (∀ x ∈ p, sp x.block = true) → DataW.TrodAll enc P W' 0 sp true f.params.toList args.toList (s.fn H (ds ++ [])).args p := fun sp hs => by
    rw [hfn]
    exact trodAll_stays hl hb sp hra hlt hs hA
  have hres : ∀ (b : Nat) (sp : Nat → Bool) (hd : Bool), DataW.TrodAll enc P W' b sp hd f.resultTypes.toList ((Value.bool true).resultList f.resultTypes.size) (s.fn H (ds ++ [])).results [] := fun b sp hd => by
    rw [hfn, htb]
    exact trodAll_mk1 (shut_bool hub _)
  have hvs : ∀ sp : Nat → Bool, DataW.TrodVars enc P W' sp s.vars (s.fn H (ds ++ [])).vars [] := fun sp => by
    rw [hfn, hvars]
    rfl
  refine ⟨ds, [], p ++ [], [], p, [], hW', hres _ _ _, hargs _ (fun x hx => hold x (List.mem_append.2 (.inl hx))), hvs _, hb.frame _, fun h => by cases h⟩

theorem readTys_length {P : Program} {n : Nat} : ∀ {Ts : List TypeId} {ts : List Ty}, readTys P n Ts ts = true → Ts.length = ts.length
  | [], [], _ => rfl
  | [], _ :: _, h => by simp [readTys] at h
  | _ :: _, [], h => by simp [readTys] at h
  | _ :: _, _ :: _, h => by
    simp only [readTys, Bool.and_eq_true] at h
    simp [readTys_length h.2]

/-- A law that is true of all data: its call. -/
theorem law_calls {H : Type} {enc : TypeId × Value → H} {P : Program} {f : FuncId} {fn : Func} {en : Entry} {s : ChangeSpec} {tb : TypeId} (n : Nat) (tys : List Ty) (hD : Does P f en) (hf : P.funcs[f]? = some fn) (hbody : fn.body.isSome = true) (hname : (fn.name == "runtime.NumGoroutine") = false)
    (hl : laidOutB P = true) (hread : readTys P n fn.params.toList tys = true) (hra : readableAll P fn.params.toList = true) (hvars : s.vars = []) (htb : fn.resultTypes = #[tb]) (hub : P.underlying tb = some .bool)
    (hfn : ∀ ds : List (DataW H), ds.length = tys.length → s.fn H (ds ++ []) = { results := [.lit (.bool true)], args := ds })
    (hrun : ∀ x : DV tys, DV.rng tys x → ∃ r, en.run (DV.vals tys x) [] = some r ∧ en.out (DV.vals tys x) [] r = ⟨.d .bool true, [], []⟩)
    {W : World} {base : Nat} {args : Array Value} {ds gs : List (DataW H)} {before : List MemPlace}
    (hval : ∀ (j : Nat) t v, fn.params[j]? = some t → args[j]? = some v → Value.okWide P W .any base t v)
    (hW : DataW.Whole enc P fn.params.toList s.vars false W args.toList ds gs before) :
    Calls P f args W fun e W' => ∃ v, e = .returned v ∧ s.post enc P fn false true false false W args v W' := by
  have hW' := hW
  obtain ⟨p, q, hA, hV, _, _, _⟩ := hW
  rw [hvars] at hV
  obtain ⟨rfl, rfl⟩ := trodVars_none hV
  obtain ⟨x, hx1, hx2⟩ := read_args (E := (lent []).env W (fun _ => .free) (fun _ => none)) rfl (fun _ => rfl) hread (fun j t v hj hv => hval j t v (by simpa using hj) (by simpa using hv)) hA
  obtain ⟨r, hr1, hr2⟩ := hrun x hx2
  have hent : (callFunc f args).run P W = .ok (.enter f args) W := by
    unfold callFunc
    obtain ⟨c, hc⟩ := Option.isSome_iff_exists.1 hbody
    have hname' : ¬ fn.name = "runtime.NumGoroutine" := by simpa using hname
    simp [hf, hname', hc]
  have hlen : ds.length = tys.length := by rw [trodAll_length hA, readTys_length hread]
  have ho : Objs ((lent []).env W (fun _ => .free) (fun _ => none)) := fun id ver fr c h => by
    exfalso
    cases id with
    | old k => simp [AS.env, AS.ent, lent] at h
    | new i j => simp [AS.env, AS.ent, lent] at h
  rcases hD W (fun _ => .free) (fun _ => none) (DV.vals tys x) [] args.toList r hx1 ho hr1 with ⟨_, hc⟩ | ⟨v, w', hc, _⟩
  · refine hc.mono fun e w' he => ?_
    obtain ⟨v, rfl, g', β', h1, _, h2, _⟩ := he
    rw [hr2] at h1
    refine ⟨v, rfl, post_of_old hl hra hvars htb hub hW' (hfn ds hlen) ⟨h2.os, h2.tape, h2.output, h2.size, fun b hb => (h2.blk b hb).2⟩ ?_⟩
    obtain ⟨cs, k1, k2⟩ := h1
    have k1 : cs = [.bool true] := k1
    subst k1
    have k2 : [Value.bool true] = [v] := k2
    simpa using k2.symm
  · rw [show args.toList.toArray = args from Array.toArray_toList .., hent] at hc
    cases hc
end Go.Ab
