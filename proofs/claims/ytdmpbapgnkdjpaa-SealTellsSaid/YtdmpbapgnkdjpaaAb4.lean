/-
  Objects in memory; what a step may do; the state's relation to the machine; freezing; data taken out of values.
-/
import Derived.Test.YtdmpbapgnkdjpaaAb3
namespace Go.Ab

/-- A row of cells of its own: the block of an object. -/
def World.rowIs (w : World) (b : Nat) (cur : Array Value) (e : TypeId) : Prop := w.heap[b]? = some (.cells cur e (0, 0))

def VecR (E : Env) (id : Id) (fr : Bool) (e : TypeId) (t : Ty) (l : List t.den) : Prop :=
  0 < t.size ∧ match E.β id with
    | none => l = []
    | some pl => ∃ cur k, E.w.heap[pl.b]? = some (.cells cur e (0, 0)) ∧ cur.size = pl.cap * t.size ∧ l.length ≤ pl.cap ∧ pl.cap ≤ maxLen ∧ E.g pl.b = .own (.id id) k ∧
        k ≤ l.length * t.size ∧ (fr = false → k = 0) ∧ Chunks (Rep E t) (cur.toList.take (l.length * t.size)) l

def boxLab (id : Id) (fr : Bool) : Lab := match fr with | true => .free | false => .own (.id id) 0

def BoxR (E : Env) (id : Id) (fr : Bool) (c : AVal) : Prop :=
  ∃ pl cur e, E.β id = some pl ∧ E.w.heap[pl.b]? = some (.cells cur e (0, 0)) ∧ E.g pl.b = boxLab id fr ∧ V E c cur.toList

def ObjR (E : Env) (id : Id) (fr : Bool) : AVal → Prop
  | .vec e t l => VecR E id fr e t l
  | c => BoxR E id fr c

theorem ObjR.box {E : Env} {id : Id} {fr : Bool} {c : AVal} (h : ObjR E id fr c) (hn : c.isVec = false) : BoxR E id fr c := by
  cases c <;> first | exact h | (simp [AVal.isVec] at hn)
theorem BoxR.obj {E : Env} {id : Id} {fr : Bool} {c : AVal} (h : BoxR E id fr c) : ObjR E id fr c := by
  cases c <;> first | exact h | (obtain ⟨_, _, _, _, _, _, hv⟩ := h; simp only [V] at hv)

def Objs (E : Env) : Prop := ∀ id ver fr c, E.s id = some (.obj ver fr c) → ObjR E id fr c

/-- What a step may do to memory, and to what is said of it. -/
structure Trans (w w' : World) (g g' : Nat → Lab) : Prop where
  os : w'.os = w.os
  tape : w'.tape = w.tape
  output : w'.output = w.output
  size : w.heap.size ≤ w'.heap.size
  blk : ∀ b, b < w.heap.size → match g b with
    | .free => g' b = .free ∧ w'.heap[b]? = w.heap[b]?
    | .own .foreign k => g' b = .own .foreign k ∧ w'.heap[b]? = w.heap[b]?
    | .own (.id _) k => (g' b = .free ∨ ∃ i k', g' b = .own (.id i) k' ∧ k ≤ k') ∧ ∀ off v, off < k → w.cell? ⟨b, off, none⟩ = some v → w'.cell? ⟨b, off, none⟩ = some v

theorem Trans.refl (w : World) (g : Nat → Lab) : Trans w w g g :=
  ⟨rfl, rfl, rfl, Nat.le_refl _, fun b _ => by
    cases g b with
    | free => exact ⟨rfl, rfl⟩
    | own o k => cases o with
      | foreign => exact ⟨rfl, rfl⟩
      | id i => exact ⟨.inr ⟨i, k, rfl, Nat.le_refl _⟩, fun _ _ _ h => h⟩⟩

theorem Trans.trans {w w' w'' : World} {g g' g'' : Nat → Lab} (h : Trans w w' g g') (h' : Trans w' w'' g' g'') : Trans w w'' g g'' := by
  refine ⟨h'.os.trans h.os, h'.tape.trans h.tape, h'.output.trans h.output, Nat.le_trans h.size h'.size, fun b hb => ?_⟩
  have h1 := h.blk b hb
  have h2 := h'.blk b (Nat.lt_of_lt_of_le hb h.size)
  cases hg : g b with
  | free =>
    rw [hg] at h1; simp only at h1 ⊢
    rw [h1.1] at h2; simp only at h2
    exact ⟨h2.1, h2.2.trans h1.2⟩
  | own o k =>
    cases o with
    | foreign =>
      rw [hg] at h1; simp only at h1 ⊢
      rw [h1.1] at h2; simp only at h2
      exact ⟨h2.1, h2.2.trans h1.2⟩
    | id i =>
      rw [hg] at h1; simp only at h1 ⊢
      obtain ⟨h1g, h1c⟩ := h1
      rcases h1g with h1g | ⟨i', k', h1g, hk⟩
      · rw [h1g] at h2; simp only at h2
        exact ⟨.inl h2.1, fun off v ho hv => by
          have := h1c off v ho hv
          simpa only [World.cell?, h2.2] using this⟩
      · rw [h1g] at h2; simp only at h2
        refine ⟨?_, fun off v ho hv => h2.2 off v (by omega) (h1c off v ho hv)⟩
        rcases h2.1 with h2g | ⟨i'', k'', h2g, hk'⟩
        · exact .inl h2g
        · exact .inr ⟨i'', k'', h2g, by omega⟩

theorem Trans.mem {E E' : Env} (h : Trans E.w E'.w E.g E'.g) : MemLe E E' := by
  refine ⟨?_, fun b ob hf ho => by
    have h1 := h.blk b (Array.getElem?_eq_some_iff.1 ho).1
    rw [hf] at h1
    exact ⟨h1.1, h1.2.trans ho⟩⟩
  intro b off v ⟨hc, ho⟩
  have hb : b < E.w.heap.size := World.block_lt_of_cell? _ _ hc
  have h1 := h.blk b hb
  unfold Env.has okAt at *
  cases hg : E.g b with
  | free =>
    rw [hg] at h1; simp only at h1
    refine ⟨?_, by rw [h1.1]; trivial⟩
    simpa only [World.cell?, h1.2] using hc
  | own o k =>
    rw [hg] at ho; simp only at ho
    cases o with
    | foreign =>
      rw [hg] at h1; simp only at h1
      refine ⟨?_, by rw [h1.1]; exact ho⟩
      simpa only [World.cell?, h1.2] using hc
    | id i =>
      rw [hg] at h1; simp only at h1
      refine ⟨h1.2 off v ho hc, ?_⟩
      rcases h1.1 with h2 | ⟨i', k', h2, hk⟩
      · rw [h2]; trivial
      · rw [h2]; show off < k'; omega

/-- An object that nothing happened to. -/
theorem ObjR.mono {E E' : Env} (h : EnvLe E E') {id : Id} {fr : Bool} {c : AVal} (ho : ObjR E id fr c) (hβ : E'.β id = E.β id)
    (hb : ∀ pl, E.β id = some pl → E'.w.heap[pl.b]? = E.w.heap[pl.b]? ∧ E'.g pl.b = E.g pl.b) : ObjR E' id fr c := by
  by_cases hn : c.isVec = false
  · obtain ⟨pl, cur, e, h1, h2, h3, h4⟩ := ho.box hn
    obtain ⟨b1, b2⟩ := hb pl h1
    exact BoxR.obj ⟨pl, cur, e, by rw [hβ, h1], by rw [b1, h2], by rw [b2, h3], h4.mono h⟩
  · cases c <;> first
      | (exact absurd rfl hn)
      | skip
    rename_i e t l
    obtain ⟨hz, ho⟩ := ho
    refine ⟨hz, ?_⟩
    rw [hβ]
    cases hp : E.β id with
    | none => rw [hp] at ho; exact ho
    | some pl =>
      rw [hp] at ho
      simp only at ho ⊢
      obtain ⟨b1, b2⟩ := hb pl hp
      obtain ⟨cur, k, h1, h2, h3, h4, h5, h6, h7, h8⟩ := ho
      exact ⟨cur, k, by rw [b1, h1], h2, h3, h4, by rw [b2, h5], h6, h7, h8.mono fun c x hx => hx.mono h.mem⟩

/-! ### The state -/

def AS.env (s : AS) (w : World) (g : Nat → Lab) (β : Id → Option Pl) : Env := { w, g, β, s := s.ent }

structure Ctx where
  E : Env

/-- A state of the abstract machine stands for the machine's frame and world. -/
structure Inv (C : Ctx) (g : Nat → Lab) (β : Id → Option Pl) (s : AS) (a : Act) (w : World) : Prop where
  defers : a.defers = []
  size : a.tmps.size = s.slots.length
  slots : ∀ i, VS (s.env w g β) (s.slot i) (a.tmps.getD i undef)
  objs : Objs (s.env w g β)
  trans : Trans C.E.w w C.E.g g
  le : EnvLe C.E (s.env w g β)

def Sts (C : Ctx) (s : AS) (a : Act) (w : World) : Prop := ∃ g β, Inv C g β s a w

theorem slot_put (s : AS) (d : Nat) (v : AVal) (i : Nat) : (s.put (some d) v).slot i = if i = d ∧ d < s.slots.length then v else s.slot i := by
  simp only [AS.put, AS.slot, List.getD_eq_getElem?_getD, List.getElem?_set]
  by_cases h : d = i
  · subst h
    by_cases hl : d < s.slots.length
    · simp [hl]
    · simp [hl]
  · simp [h, Ne.symm h]

@[simp] theorem ent_put (s : AS) (d : Option Tmp) (v : AVal) : (s.put d v).ent = s.ent := by
  cases d <;> rfl
@[simp] theorem env_put (s : AS) (d : Option Tmp) (v : AVal) (w : World) (g : Nat → Lab) (β : Id → Option Pl) : (s.put d v).env w g β = s.env w g β := by
  simp [AS.env]
theorem obj_put (s : AS) (d : Option Tmp) (v : AVal) (id : Id) : (s.put d v).obj id = s.obj id := by simp [AS.obj]

theorem tmps_put (a : Act) (d : Nat) (v : Value) (i : Nat) : (a.put (some d) v).tmps.getD i undef = if i = d ∧ d < a.tmps.size then v else a.tmps.getD i undef := by
  simp only [Act.put, Array.getD_eq_getD_getElem?, Array.getElem?_setIfInBounds]
  by_cases h : d = i
  · subst h
    by_cases hl : d < a.tmps.size
    · simp [hl]
    · simp [hl]
  · simp [h, Ne.symm h]

theorem Inv.put {C : Ctx} {g : Nat → Lab} {β : Id → Option Pl} {s : AS} {a : Act} {w : World} (h : Inv C g β s a w) (d : Option Tmp) {v : AVal} {x : Value} (hv : VS (s.env w g β) v x) :
    Inv C g β (s.put d v) (a.put d x) w := by
  cases d with
  | none => exact h
  | some d =>
    refine ⟨by simpa [Act.put] using h.defers, by simpa [Act.put, AS.put] using h.size, fun i => ?_, by simpa using h.objs, h.trans, by simpa using h.le⟩
    rw [env_put, slot_put, tmps_put, h.size]
    split
    · exact hv
    · exact h.slots i

/-- A step that leaves the slots. -/
theorem Inv.step {C : Ctx} {g g' : Nat → Lab} {β β' : Id → Option Pl} {s s' : AS} {a : Act} {w w' : World} (h : Inv C g β s a w) (hs : s'.slots = s.slots)
    (ht : Trans w w' g g') (he : EnvLe (s.env w g β) (s'.env w' g' β')) (ho : Objs (s'.env w' g' β')) : Inv C g' β' s' a w' :=
  ⟨h.defers, by rw [hs]; exact h.size, fun i => by
    have : s'.slot i = s.slot i := by simp [AS.slot, hs]
    rw [this]
    exact (h.slots i).mono he, ho, h.trans.trans ht, h.le.trans he⟩

theorem VS_const {E : Env} (v : Value) : VS E (ofConst v) v := by
  cases v with
  | bool b => exact ⟨_, by simp [ofConst, V, Rep], rfl⟩
  | int k n => exact ⟨_, by simp [ofConst, V, Rep], rfl⟩
  | string s => exact ⟨_, by simp [ofConst, V, Rep], rfl⟩
  | slice a l c => cases a with
    | none =>
      cases l with
      | zero => cases c with
        | zero => exact ⟨_, by simp [ofConst, V], rfl⟩
        | succ _ => trivial
      | succ _ => trivial
    | some _ => trivial
  | pointer a => cases a with
    | none => exact ⟨_, by simp [ofConst, V], rfl⟩
    | some _ => trivial
  | map r => cases r with
    | none => exact ⟨_, by simp [ofConst, V], rfl⟩
    | some _ => trivial
  | nilFunc => exact ⟨_, by simp [ofConst, V], rfl⟩
  | _ => trivial

theorem Inv.ev {C : Ctx} {g : Nat → Lab} {β : Id → Option Pl} {s : AS} {a : Act} {w : World} (h : Inv C g β s a w) (x : Operand) : VS (s.env w g β) (s.ev x) (a.eval x) := by
  cases x with
  | tmp t => exact h.slots t
  | const v => exact VS_const v
  | func f => exact ⟨_, by simp only [AS.ev, V]; exact ⟨[], rfl, by simp [VC]⟩, rfl⟩
  | global _ => trivial

/-! ### Objects that are set anew -/

theorem ent_setEnt_self (s : AS) (id : Id) (e : Ent) (h : s.ent id ≠ none) : (s.setEnt id e).ent id = some e := by
  cases id with
  | old k =>
    simp only [AS.ent, AS.setEnt] at *
    have hk : k < s.olds.length := by
      rcases Nat.lt_or_ge k s.olds.length with h' | h'
      · exact h'
      · exact absurd (List.getElem?_eq_none h') h
    simp [hk]
  | new i j =>
    simp only [AS.ent, AS.setEnt] at *
    have hj : j < (s.news.getD i []).length := by
      rcases Nat.lt_or_ge j (s.news.getD i []).length with h' | h'
      · exact h'
      · exact absurd (List.getElem?_eq_none h') h
    have hi : i < s.news.length := by
      rcases Nat.lt_or_ge i s.news.length with h' | h'
      · exact h'
      · simp [List.getElem?_eq_none h'] at hj
    have : ((s.news.set i ((s.news.getD i []).set j e)).getD i []) = (s.news.getD i []).set j e := by
      simp [List.getD_eq_getElem?_getD, hi]
    rw [this]
    simp only [List.getElem?_set, hj, if_true]

theorem ent_setEnt_other (s : AS) (id id' : Id) (e : Ent) (h : id' ≠ id) : (s.setEnt id e).ent id' = s.ent id' := by
  cases id with
  | old k =>
    cases id' with
    | old k' =>
      simp only [AS.ent, AS.setEnt]
      rw [List.getElem?_set_ne (fun e => h (by rw [e]))]
    | new i j => rfl
  | new i j =>
    cases id' with
    | old k' => rfl
    | new i' j' =>
      simp only [AS.ent, AS.setEnt]
      by_cases hi : i' = i
      · subst hi
        have hj : j ≠ j' := fun e => h (by rw [e])
        by_cases hl : i' < s.news.length
        · have : ((s.news.set i' ((s.news.getD i' []).set j e)).getD i' []) = (s.news.getD i' []).set j e := by
            simp [List.getD_eq_getElem?_getD, hl]
          rw [this, List.getElem?_set_ne hj]
        · rw [List.set_eq_of_length_le (by omega)]
      · have : (s.news.set i ((s.news.getD i []).set j e)).getD i' [] = s.news.getD i' [] := by
          simp only [List.getD_eq_getElem?_getD]
          rw [List.getElem?_set_ne (Ne.symm hi)]
        rw [this]

@[simp] theorem slots_setEnt (s : AS) (id : Id) (e : Ent) : (s.setEnt id e).slots = s.slots := by cases id <;> rfl
@[simp] theorem slots_born (s : AS) (i : Nat) (es : List Ent) : (s.born i es).slots = s.slots := rfl

theorem obj_some {s : AS} {id : Id} {v : Nat} {fr : Bool} {c : AVal} (h : s.obj id = some (v, fr, c)) : s.ent id = some (.obj v fr c) := by
  unfold AS.obj at h
  split at h
  · rename_i h'; simp at h; obtain ⟨rfl, rfl, rfl⟩ := h; exact h'
  · cases h

/-- An object is set to another one of the same version or a later one; all else stays. -/
theorem EnvLe.setEnt {s : AS} {w w' : World} {g g' : Nat → Lab} {β β' : Id → Option Pl} {id : Id} {v v' : Nat} {fr fr' : Bool} {c c' : AVal} (hs : s.ent id = some (.obj v fr c)) (hv : v ≤ v')
    (ht : Trans w w' g g') (hβ : ∀ i, i ≠ id → β' i = β i) (hβ' : v' = v → β' id = β id) : EnvLe (s.env w g β) ((s.setEnt id (.obj v' fr' c')).env w' g' β') := by
  have hself := ent_setEnt_self s id (.obj v' fr' c') (by rw [hs]; simp)
  refine ⟨Trans.mem ht, fun i ver hb => ?_, fun i ver hb hc => ?_⟩
  · by_cases hi : i = id
    · subst hi
      obtain ⟨_, h2⟩ := hb
      refine ⟨by show (s.setEnt i (.obj v' fr' c')).ent i ≠ none; rw [hself]; simp, fun v'' fr'' c'' he => ?_⟩
      have he' : (s.setEnt i (.obj v' fr' c')).ent i = some (.obj v'' fr'' c'') := he
      rw [hself] at he'
      simp only [Option.some.injEq, Ent.obj.injEq] at he'
      have := h2 v fr c hs
      omega
    · have := ent_setEnt_other s id i (.obj v' fr' c') hi
      obtain ⟨h1, h2⟩ := hb
      exact ⟨by show (s.setEnt id (.obj v' fr' c')).ent i ≠ none; rw [this]; exact h1, fun v'' fr'' c'' he => h2 v'' fr'' c'' (this.symm.trans he)⟩
  · obtain ⟨fr'', c'', hc⟩ := hc
    by_cases hi : i = id
    · subst hi
      have hc' : (s.setEnt i (.obj v' fr' c')).ent i = some (.obj ver fr'' c'') := hc
      rw [hself] at hc'
      simp only [Option.some.injEq, Ent.obj.injEq] at hc'
      have h2 := hb.2 v fr c hs
      have e : v' = v := by omega
      refine ⟨⟨fr, c, ?_⟩, hβ' e⟩
      rw [← hc'.1, e]; exact hs
    · have hc' : (s.setEnt id (.obj v' fr' c')).ent i = some (.obj ver fr'' c'') := hc
      rw [ent_setEnt_other s id i _ hi] at hc'
      exact ⟨⟨fr'', c'', hc'⟩, hβ i hi⟩

/-- All objects, when one is set. -/
theorem Objs.setEnt {s : AS} {w w' : World} {g g' : Nat → Lab} {β β' : Id → Option Pl} {id : Id} {v' : Nat} {fr' : Bool} {c' : AVal} (h : Objs (s.env w g β)) (hne : s.ent id ≠ none)
    (he : EnvLe (s.env w g β) ((s.setEnt id (.obj v' fr' c')).env w' g' β')) (hβ : ∀ i, i ≠ id → β' i = β i)
    (hb : ∀ i ver fr c pl, i ≠ id → s.ent i = some (.obj ver fr c) → β i = some pl → w'.heap[pl.b]? = w.heap[pl.b]? ∧ g' pl.b = g pl.b)
    (ho : ObjR ((s.setEnt id (.obj v' fr' c')).env w' g' β') id fr' c') : Objs ((s.setEnt id (.obj v' fr' c')).env w' g' β') := by
  intro i ver fr c hi
  by_cases hid : i = id
  · subst hid
    have hi' : (s.setEnt i (.obj v' fr' c')).ent i = some (.obj ver fr c) := hi
    rw [ent_setEnt_self s i _ hne] at hi'
    simp only [Option.some.injEq, Ent.obj.injEq] at hi'
    obtain ⟨rfl, rfl, rfl⟩ := hi'
    exact ho
  · have hi' : (s.setEnt id (.obj v' fr' c')).ent i = some (.obj ver fr c) := hi
    rw [ent_setEnt_other s id i _ hid] at hi'
    exact (h i ver fr c hi').mono he (hβ i hid) fun pl hp => hb i ver fr c pl hid hi' hp

/-- The block of an object that may be written. -/
theorem ObjR.label {E : Env} {id : Id} {fr : Bool} {c : AVal} (h : ObjR E id fr c) {pl : Pl} (hp : E.β id = some pl) :
    pl.b < E.w.heap.size ∧ ((∃ k, E.g pl.b = .own (.id id) k) ∨ (fr = true ∧ E.g pl.b = .free)) := by
  by_cases hn : c.isVec = false
  · obtain ⟨pl', cur, e, h1, h2, h3, h4⟩ := h.box hn
    rw [hp] at h1
    obtain rfl : pl = pl' := by simpa using h1
    refine ⟨(Array.getElem?_eq_some_iff.1 h2).1, ?_⟩
    cases fr with
    | true => exact .inr ⟨rfl, h3⟩
    | false => exact .inl ⟨0, h3⟩
  · cases c <;> first | (exact absurd rfl hn) | skip
    obtain ⟨_, h⟩ := h
    rw [hp] at h
    obtain ⟨cur, k, h1, _, _, _, h5, _⟩ := h
    exact ⟨(Array.getElem?_eq_some_iff.1 h1).1, .inl ⟨k, h5⟩⟩

def upd1 {α : Type} (f : Nat → α) (b : Nat) (x : α) : Nat → α := fun b' => if b' = b then x else f b'
@[simp] theorem upd1_self {α : Type} (f : Nat → α) (b : Nat) (x : α) : upd1 f b x b = x := by simp [upd1]
theorem upd1_other {α : Type} (f : Nat → α) (b : Nat) (x : α) {b' : Nat} (h : b' ≠ b) : upd1 f b x b' = f b' := by simp [upd1, h]

/-! ### Freezing -/

def inVec : AVal → Nat → Prop
  | .vec _ t l, j => j < l.length * t.size
  | _, _ => True

theorem inVec.of {c : AVal} (h : c.isVec = false) (j : Nat) : inVec c j := by
  cases c <;> first | trivial | (simp [AVal.isVec] at h)

theorem freeze_sound {C : Ctx} {g : Nat → Lab} {β : Id → Option Pl} {s : AS} {a : Act} {w : World} (h : Inv C g β s a w) (id : Id) :
    ∃ g', Inv C g' β (s.freeze id) a w ∧ EnvLe (s.env w g β) ((s.freeze id).env w g' β) ∧ Trans w w g g' ∧
      (∀ v fr c, s.ent id = some (.obj v fr c) → ∀ pl, β id = some pl → ∀ j x, w.cell? ⟨pl.b, j, none⟩ = some x →
        inVec c j → okAt g' pl.b j) := by
  unfold AS.freeze
  cases hs : s.ent id with
  | none => exact ⟨g, h, EnvLe.refl _, Trans.refl _ _, fun _ _ _ hh => by cases hh⟩
  | some e =>
    cases e with
    | dead => exact ⟨g, h, EnvLe.refl _, Trans.refl _ _, fun _ _ _ hh => by cases hh⟩
    | obj v fr c =>
      simp only
      have hob : ObjR (s.env w g β) id fr c := h.objs id v fr c hs
      cases hp : β id with
      | none =>
        have ht := Trans.refl w g
        have he : EnvLe (s.env w g β) ((s.setEnt id (.obj v true c)).env w g β) := EnvLe.setEnt hs (Nat.le_refl _) ht (fun _ _ => rfl) (fun _ => rfl)
        refine ⟨g, h.step (slots_setEnt _ _ _) ht he ?_, he, ht, fun _ _ _ _ pl hpl => by cases hpl⟩
        refine Objs.setEnt h.objs (by rw [hs]; simp) he (fun _ _ => rfl) (fun _ _ _ _ _ _ _ _ => ⟨rfl, rfl⟩) ?_
        by_cases hn : c.isVec = false
        · obtain ⟨pl, _, _, h1, _⟩ := hob.box hn
          have h1' : β id = some pl := h1
          rw [hp] at h1'; cases h1'
        · cases c <;> first | (exact absurd rfl hn) | skip
          obtain ⟨hz, ho⟩ := hob
          have ho' : (match β id with
            | none => _
            | some pl => _) := ho
          refine ⟨hz, ?_⟩
          show (match β id with
            | none => _
            | some pl => _)
          rw [hp] at ho' ⊢
          exact ho'
      | some pl =>
        have hlab := hob.label (pl := pl) hp
        by_cases hn : c.isVec = false
        · obtain ⟨pl', cur, e, h1, h2, h3, h4⟩ := hob.box hn
          have h1' : β id = some pl' := h1
          rw [hp] at h1'
          obtain rfl : pl = pl' := by simpa using h1'
          have h3' : g pl.b = boxLab id fr := h3
          have ht : Trans w w g (upd1 g pl.b .free) := by
            refine ⟨rfl, rfl, rfl, Nat.le_refl _, fun b hb => ?_⟩
            by_cases hbe : b = pl.b
            · subst hbe
              rw [h3', upd1_self]
              cases fr with
              | true => exact ⟨rfl, rfl⟩
              | false => exact ⟨.inl rfl, fun _ _ _ hh => hh⟩
            · rw [upd1_other _ _ _ hbe]
              exact (Trans.refl w g).blk b hb
          have he : EnvLe (s.env w g β) ((s.setEnt id (.obj v true c)).env w (upd1 g pl.b .free) β) := EnvLe.setEnt hs (Nat.le_refl _) ht (fun _ _ => rfl) (fun _ => rfl)
          refine ⟨upd1 g pl.b .free, h.step (slots_setEnt _ _ _) ht he ?_, he, ht, ?_⟩
          · refine Objs.setEnt h.objs (by rw [hs]; simp) he (fun _ _ => rfl) (fun i ver fr' c' pl' hi hent hpl => ⟨rfl, ?_⟩) ?_
            · by_cases hbe : pl'.b = pl.b
              · rw [hbe, upd1_self]
                have hl := (h.objs i ver fr' c' hent).label (pl := pl') hpl
                have hl2 : (∃ k, g pl'.b = .own (.id i) k) ∨ (fr' = true ∧ g pl'.b = .free) := hl.2
                rw [hbe, h3'] at hl2
                cases fr with
                | true => exact h3'.symm ▸ rfl
                | false =>
                  exfalso
                  rcases hl2 with ⟨k, hk⟩ | ⟨_, hk⟩
                  · simp only [boxLab, Lab.own.injEq, Own.id.injEq] at hk
                    exact hi hk.1.symm
                  · cases hk
              · rw [upd1_other _ _ _ hbe]
            · exact BoxR.obj ⟨pl, cur, e, hp, h2, upd1_self _ _ _, V.mono he h4⟩
          · intro v1 fr1 c1 hh pl1 hpl1 j x hx hj
            obtain rfl : pl = pl1 := by simpa using hpl1
            unfold okAt; rw [upd1_self]; trivial
        · cases c <;> first | (exact absurd rfl hn) | skip
          rename_i e t l
          obtain ⟨hz, ho⟩ := hob
          have ho' : (match β id with
            | none => l = []
            | some pl => ∃ cur k, w.heap[pl.b]? = some (.cells cur e (0, 0)) ∧ cur.size = pl.cap * t.size ∧ l.length ≤ pl.cap ∧ pl.cap ≤ maxLen ∧ g pl.b = .own (.id id) k ∧
                k ≤ l.length * t.size ∧ (fr = false → k = 0) ∧ Chunks (Rep (s.env w g β) t) (cur.toList.take (l.length * t.size)) l) := ho
          rw [hp] at ho'
          obtain ⟨cur, k, h1, h2, h3, h4, h5, h6, h7, h8⟩ := ho'
          have ht : Trans w w g (upd1 g pl.b (.own (.id id) (l.length * t.size))) := by
            refine ⟨rfl, rfl, rfl, Nat.le_refl _, fun b hb => ?_⟩
            by_cases hbe : b = pl.b
            · subst hbe
              rw [h5, upd1_self]
              exact ⟨.inr ⟨id, _, rfl, h6⟩, fun _ _ _ hh => hh⟩
            · rw [upd1_other _ _ _ hbe]
              exact (Trans.refl w g).blk b hb
          have he : EnvLe (s.env w g β) ((s.setEnt id (.obj v true (.vec e t l))).env w (upd1 g pl.b (.own (.id id) (l.length * t.size))) β) := EnvLe.setEnt hs (Nat.le_refl _) ht (fun _ _ => rfl) (fun _ => rfl)
          refine ⟨_, h.step (slots_setEnt _ _ _) ht he ?_, he, ht, ?_⟩
          · refine Objs.setEnt h.objs (by rw [hs]; simp) he (fun _ _ => rfl) (fun i ver fr' c' pl' hi hent hpl => ⟨rfl, ?_⟩) ?_
            · by_cases hbe : pl'.b = pl.b
              · exfalso
                have hl := (h.objs i ver fr' c' hent).label (pl := pl') hpl
                have hl2 : (∃ k, g pl'.b = .own (.id i) k) ∨ (fr' = true ∧ g pl'.b = .free) := hl.2
                rw [hbe, h5] at hl2
                rcases hl2 with ⟨k, hk⟩ | ⟨_, hk⟩
                · simp only [Lab.own.injEq, Own.id.injEq] at hk
                  exact hi hk.1.symm
                · cases hk
              · rw [upd1_other _ _ _ hbe]
            · refine ⟨hz, ?_⟩
              show (match β id with
                | none => l = []
                | some pl => _)
              rw [hp]
              exact ⟨cur, _, h1, h2, h3, h4, upd1_self _ _ _, Nat.le_refl _, (by intro hh; cases hh), h8.mono fun c x hx => hx.mono he.mem⟩
          · intro v1 fr1 c1 hh pl1 hpl1 j x hx hj
            obtain rfl : pl = pl1 := by simpa using hpl1
            simp only [Option.some.injEq, Ent.obj.injEq] at hh
            obtain ⟨_, _, rfl⟩ := hh
            unfold okAt; rw [upd1_self]; exact hj

end Go.Ab
