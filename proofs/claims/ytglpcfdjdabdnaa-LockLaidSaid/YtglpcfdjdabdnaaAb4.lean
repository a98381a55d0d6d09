/-
  The abstract machine, a part.
-/
import Derived.Test.YtglpcfdjdabdnaaAb2

/-
  Objects in memory; what a step may do; the state's relation to the machine; freezing; data taken out of values.
-/
namespace Go.Ab

/-- A row of cells of its own: the block of an object. -/
def World.rowIs (w : World) (b : Nat) (cur : Array Value) (e : TypeId) : Prop := w.heap[b]? = some (.cells cur e (0, 0))

def VecR (E : Env) (id : Id) (fr : Bool) (e : TypeId) (t : Ty) (l : List t.den) : Prop :=
  0 < t.size ∧ match E.β id with
    | none => l = []
    | some pl => ∃ cur k, E.w.heap[pl.b]? = some (.cells cur e (0, 0)) ∧ cur.size = pl.cap * t.size ∧ l.length ≤ pl.cap ∧ pl.cap ≤ maxLen ∧ E.g pl.b = .own (.id id) k ∧
        k ≤ l.length * t.size ∧ (fr = false → k = 0) ∧ Chunks (Rep E t) (cur.toList.take (l.length * t.size)) l

/-- Is the box of this type? -/
def AVal.boxOk : AVal → TypeId → Prop
  | .bx e' _, e => e = e'
  | _, _ => True
def AVal.isBx : AVal → Bool | .bx .. => true | _ => false
theorem V.notBx {E : Env} {a : AVal} {cs : List Value} (h : V E a cs) : a.isBx = false := by
  cases a <;> first | rfl | (simp only [V] at h)
theorem strip_not {c : AVal} (h : c.isBx = false) : c.strip = c := by
  cases c <;> first | rfl | (simp [AVal.isBx] at h)
theorem boxOk_not {c : AVal} (h : c.isBx = false) (e : TypeId) : c.boxOk e := by
  cases c <;> first | trivial | (simp [AVal.isBx] at h)
theorem strip_wrap (c : AVal) {c' : AVal} (h : c'.isBx = false) : (c.wrap c').strip = c' := by
  cases c <;> first | rfl | exact strip_not h
theorem boxOk_wrap {c c' : AVal} {e : TypeId} (hc : c.boxOk e) (h : c'.isBx = false) : (c.wrap c').boxOk e := by
  cases c <;> first | exact hc | exact boxOk_not h e

def boxLab (id : Id) (fr : Bool) : Lab := match fr with | true => .free | false => .own (.id id) 0

def BoxR (E : Env) (id : Id) (fr : Bool) (c : AVal) : Prop :=
  ∃ pl cur e, E.β id = some pl ∧ E.w.heap[pl.b]? = some (.cells cur e (0, 0)) ∧ E.g pl.b = boxLab id fr ∧ c.boxOk e ∧ V E c.strip cur.toList

def ObjR (E : Env) (id : Id) (fr : Bool) : AVal → Prop
  | .vec e t l => VecR E id fr e t l
  | c => BoxR E id fr c

theorem ObjR.box {E : Env} {id : Id} {fr : Bool} {c : AVal} (h : ObjR E id fr c) (hn : c.isVec = false) : BoxR E id fr c := by
  cases c <;> first | exact h | (simp [AVal.isVec] at hn)
theorem BoxR.obj {E : Env} {id : Id} {fr : Bool} {c : AVal} (h : BoxR E id fr c) : ObjR E id fr c := by
  cases c <;> first | exact h | (obtain ⟨_, _, _, _, _, _, _, hv⟩ := h; simp only [AVal.strip, V] at hv)

def Objs (E : Env) : Prop := ∀ id ver fr c, E.s id = some (.obj ver fr c) → ObjR E id fr c

/-- What a step may do to memory, and to what is said of it. -/
structure Trans (w w' : World) (g g' : Nat → Lab) : Prop where
  os : w'.os = w.os
  tape : w'.tape = w.tape
  output : w'.output = w.output
  size : w.heap.size ≤ w'.heap.size
  blk : ∀ b, b < w.heap.size → match g b with
    | .free => g' b = .free ∧ w'.heap[b]? = w.heap[b]?
    | .own .foreign k => g' b = .own .foreign k ∧ w'.heap[b]? = w.heap[b]?
    | .own (.id _) k => (g' b = .free ∨ ∃ i k', g' b = .own (.id i) k' ∧ k ≤ k') ∧ ∀ off v, off < k → w.cell? ⟨b, off, none⟩ = some v → w'.cell? ⟨b, off, none⟩ = some v

theorem Trans.refl (w : World) (g : Nat → Lab) : Trans w w g g :=
  ⟨rfl, rfl, rfl, Nat.le_refl _, fun b _ => by
    cases g b with
    | free => exact ⟨rfl, rfl⟩
    | own o k => cases o with
      | foreign => exact ⟨rfl, rfl⟩
      | id i => exact ⟨.inr ⟨i, k, rfl, Nat.le_refl _⟩, fun _ _ _ h => h⟩⟩

theorem Trans.trans {w w' w'' : World} {g g' g'' : Nat → Lab} (h : Trans w w' g g') (h' : Trans w' w'' g' g'') : Trans w w'' g g'' := by
  refine ⟨h'.os.trans h.os, h'.tape.trans h.tape, h'.output.trans h.output, Nat.le_trans h.size h'.size, fun b hb => ?_⟩
  have h1 := h.blk b hb
  have h2 := h'.blk b (Nat.lt_of_lt_of_le hb h.size)
  cases hg : g b with
  | free =>
    rw [hg] at h1; simp only at h1 ⊢
    rw [h1.1] at h2; simp only at h2
    exact ⟨h2.1, h2.2.trans h1.2⟩
  | own o k =>
    cases o with
    | foreign =>
      rw [hg] at h1; simp only at h1 ⊢
      rw [h1.1] at h2; simp only at h2
      exact ⟨h2.1, h2.2.trans h1.2⟩
    | id i =>
      rw [hg] at h1; simp only at h1 ⊢
      obtain ⟨h1g, h1c⟩ := h1
      rcases h1g with h1g | ⟨i', k', h1g, hk⟩
      · rw [h1g] at h2; simp only at h2
        exact ⟨.inl h2.1, fun off v ho hv => by
          have := h1c off v ho hv
          simpa only [World.cell?, h2.2] using this⟩
      · rw [h1g] at h2; simp only at h2
        refine ⟨?_, fun off v ho hv => h2.2 off v (by omega) (h1c off v ho hv)⟩
        rcases h2.1 with h2g | ⟨i'', k'', h2g, hk'⟩
        · exact .inl h2g
        · exact .inr ⟨i'', k'', h2g, by omega⟩

theorem Trans.mem {E E' : Env} (h : Trans E.w E'.w E.g E'.g) : MemLe E E' := by
  refine ⟨?_, fun b ob hf ho => by
    have h1 := h.blk b (Array.getElem?_eq_some_iff.1 ho).1
    rw [hf] at h1
    exact ⟨h1.1, h1.2.trans ho⟩⟩
  intro b off v ⟨hc, ho⟩
  have hb : b < E.w.heap.size := World.block_lt_of_cell? _ _ hc
  have h1 := h.blk b hb
  unfold Env.has okAt at *
  cases hg : E.g b with
  | free =>
    rw [hg] at h1; simp only at h1
    refine ⟨?_, by rw [h1.1]; trivial⟩
    simpa only [World.cell?, h1.2] using hc
  | own o k =>
    rw [hg] at ho; simp only at ho
    cases o with
    | foreign =>
      rw [hg] at h1; simp only at h1
      refine ⟨?_, by rw [h1.1]; exact ho⟩
      simpa only [World.cell?, h1.2] using hc
    | id i =>
      rw [hg] at h1; simp only at h1
      refine ⟨h1.2 off v ho hc, ?_⟩
      rcases h1.1 with h2 | ⟨i', k', h2, hk⟩
      · rw [h2]; trivial
      · rw [h2]; show off < k'; omega

/-- An object that nothing happened to. -/
theorem ObjR.mono {E E' : Env} (h : EnvLe E E') {id : Id} {fr : Bool} {c : AVal} (ho : ObjR E id fr c) (hβ : E'.β id = E.β id)
    (hb : ∀ pl, E.β id = some pl → E'.w.heap[pl.b]? = E.w.heap[pl.b]? ∧ E'.g pl.b = E.g pl.b) : ObjR E' id fr c := by
  by_cases hn : c.isVec = false
  · obtain ⟨pl, cur, e, h1, h2, h3, h5, h4⟩ := ho.box hn
    obtain ⟨b1, b2⟩ := hb pl h1
    exact BoxR.obj ⟨pl, cur, e, by rw [hβ, h1], by rw [b1, h2], by rw [b2, h3], h5, h4.mono h⟩
  · cases c <;> first
      | (exact absurd rfl hn)
      | skip
    rename_i e t l
    obtain ⟨hz, ho⟩ := ho
    refine ⟨hz, ?_⟩
    rw [hβ]
    cases hp : E.β id with
    | none => rw [hp] at ho; exact ho
    | some pl =>
      rw [hp] at ho
      simp only at ho ⊢
      obtain ⟨b1, b2⟩ := hb pl hp
      obtain ⟨cur, k, h1, h2, h3, h4, h5, h6, h7, h8⟩ := ho
      exact ⟨cur, k, by rw [b1, h1], h2, h3, h4, by rw [b2, h5], h6, h7, h8.mono fun c x hx => hx.mono h.mem⟩

/-! ### The state -/

def AS.env (s : AS) (w : World) (g : Nat → Lab) (β : Id → Option Pl) : Env := { w, g, β, s := s.ent }

structure Ctx where
  E : Env

/-- A state of the abstract machine stands for the machine's frame and world. -/
structure Inv (C : Ctx) (g : Nat → Lab) (β : Id → Option Pl) (s : AS) (a : Act) (w : World) : Prop where
  defers : a.defers = []
  size : a.tmps.size = s.slots.length
  slots : ∀ i, VS (s.env w g β) (s.slot i) (a.tmps.getD i undef)
  objs : Objs (s.env w g β)
  trans : Trans C.E.w w C.E.g g
  le : EnvLe C.E (s.env w g β)

def Sts (C : Ctx) (s : AS) (a : Act) (w : World) : Prop := ∃ g β, Inv C g β s a w

theorem slot_put (s : AS) (d : Nat) (v : AVal) (i : Nat) : (s.put (some d) v).slot i = if i = d ∧ d < s.slots.length then v else s.slot i := by
  simp only [AS.put, AS.slot, List.getD_eq_getElem?_getD, List.getElem?_set]
  by_cases h : d = i
  · subst h
    by_cases hl : d < s.slots.length
    · simp [hl]
    · simp [hl]
  · simp [h, Ne.symm h]

@[simp] theorem ent_put (s : AS) (d : Option Tmp) (v : AVal) : (s.put d v).ent = s.ent := by
  cases d <;> rfl
@[simp] theorem env_put (s : AS) (d : Option Tmp) (v : AVal) (w : World) (g : Nat → Lab) (β : Id → Option Pl) : (s.put d v).env w g β = s.env w g β := by
  simp [AS.env]
theorem obj_put (s : AS) (d : Option Tmp) (v : AVal) (id : Id) : (s.put d v).obj id = s.obj id := by simp [AS.obj]

theorem tmps_put (a : Act) (d : Nat) (v : Value) (i : Nat) : (a.put (some d) v).tmps.getD i undef = if i = d ∧ d < a.tmps.size then v else a.tmps.getD i undef := by
  simp only [Act.put, Array.getD_eq_getD_getElem?, Array.getElem?_setIfInBounds]
  by_cases h : d = i
  · subst h
    by_cases hl : d < a.tmps.size
    · simp [hl]
    · simp [hl]
  · simp [h, Ne.symm h]

theorem Inv.put {C : Ctx} {g : Nat → Lab} {β : Id → Option Pl} {s : AS} {a : Act} {w : World} (h : Inv C g β s a w) (d : Option Tmp) {v : AVal} {x : Value} (hv : VS (s.env w g β) v x) :
    Inv C g β (s.put d v) (a.put d x) w := by
  cases d with
  | none => exact h
  | some d =>
    refine ⟨by simpa [Act.put] using h.defers, by simpa [Act.put, AS.put] using h.size, fun i => ?_, by simpa using h.objs, h.trans, by simpa using h.le⟩
    rw [env_put, slot_put, tmps_put, h.size]
    split
    · exact hv
    · exact h.slots i

/-- A step that leaves the slots. -/
theorem Inv.step {C : Ctx} {g g' : Nat → Lab} {β β' : Id → Option Pl} {s s' : AS} {a : Act} {w w' : World} (h : Inv C g β s a w) (hs : s'.slots = s.slots)
    (ht : Trans w w' g g') (he : EnvLe (s.env w g β) (s'.env w' g' β')) (ho : Objs (s'.env w' g' β')) : Inv C g' β' s' a w' :=
  ⟨h.defers, by rw [hs]; exact h.size, fun i => by
    have : s'.slot i = s.slot i := by simp [AS.slot, hs]
    rw [this]
    exact (h.slots i).mono he, ho, h.trans.trans ht, h.le.trans he⟩

theorem VS_const {E : Env} (v : Value) : VS E (ofConst v) v := by
  cases v with
  | bool b => exact ⟨_, by simp [ofConst, V, Rep], rfl⟩
  | int k n => exact ⟨_, by simp [ofConst, V, Rep], rfl⟩
  | string s => exact ⟨_, by simp [ofConst, V, Rep], rfl⟩
  | slice a l c => cases a with
    | none =>
      cases l with
      | zero => cases c with
        | zero => exact ⟨_, by simp [ofConst, V], rfl⟩
        | succ _ => trivial
      | succ _ => trivial
    | some _ => trivial
  | pointer a => cases a with
    | none => exact ⟨_, by simp [ofConst, V], rfl⟩
    | some _ => trivial
  | map r => cases r with
    | none => exact ⟨_, by simp [ofConst, V], rfl⟩
    | some _ => trivial
  | nilFunc => exact ⟨_, by simp [ofConst, V], rfl⟩
  | _ => trivial

theorem Inv.ev {C : Ctx} {g : Nat → Lab} {β : Id → Option Pl} {s : AS} {a : Act} {w : World} (h : Inv C g β s a w) (x : Operand) : VS (s.env w g β) (s.ev x) (a.eval x) := by
  cases x with
  | tmp t => exact h.slots t
  | const v => exact VS_const v
  | func f => exact ⟨_, by simp only [AS.ev, V]; exact ⟨[], rfl, by simp [VC]⟩, rfl⟩
  | global _ => trivial

/-! ### Objects that are set anew -/

theorem ent_setEnt_self (s : AS) (id : Id) (e : Ent) (h : s.ent id ≠ none) : (s.setEnt id e).ent id = some e := by
  cases id with
  | old k =>
    simp only [AS.ent, AS.setEnt] at *
    have hk : k < s.olds.length := by
      rcases Nat.lt_or_ge k s.olds.length with h' | h'
      · exact h'
      · exact absurd (List.getElem?_eq_none h') h
    simp [hk]
  | new i j =>
    simp only [AS.ent, AS.setEnt] at *
    have hj : j < (s.news.getD i []).length := by
      rcases Nat.lt_or_ge j (s.news.getD i []).length with h' | h'
      · exact h'
      · exact absurd (List.getElem?_eq_none h') h
    have hi : i < s.news.length := by
      rcases Nat.lt_or_ge i s.news.length with h' | h'
      · exact h'
      · simp [List.getElem?_eq_none h'] at hj
    have : ((s.news.set i ((s.news.getD i []).set j e)).getD i []) = (s.news.getD i []).set j e := by
      simp [List.getD_eq_getElem?_getD, hi]
    rw [this]
    simp only [List.getElem?_set, hj, if_true]

theorem ent_setEnt_other (s : AS) (id id' : Id) (e : Ent) (h : id' ≠ id) : (s.setEnt id e).ent id' = s.ent id' := by
  cases id with
  | old k =>
    cases id' with
    | old k' =>
      simp only [AS.ent, AS.setEnt]
      rw [List.getElem?_set_ne (fun e => h (by rw [e]))]
    | new i j => rfl
  | new i j =>
    cases id' with
    | old k' => rfl
    | new i' j' =>
      simp only [AS.ent, AS.setEnt]
      by_cases hi : i' = i
      · subst hi
        have hj : j ≠ j' := fun e => h (by rw [e])
        by_cases hl : i' < s.news.length
        · have : ((s.news.set i' ((s.news.getD i' []).set j e)).getD i' []) = (s.news.getD i' []).set j e := by
            simp [List.getD_eq_getElem?_getD, hl]
          rw [this, List.getElem?_set_ne hj]
        · rw [List.set_eq_of_length_le (by omega)]
      · have : (s.news.set i ((s.news.getD i []).set j e)).getD i' [] = s.news.getD i' [] := by
          simp only [List.getD_eq_getElem?_getD]
          rw [List.getElem?_set_ne (Ne.symm hi)]
        rw [this]

@[simp] theorem slots_setEnt (s : AS) (id : Id) (e : Ent) : (s.setEnt id e).slots = s.slots := by cases id <;> rfl
@[simp] theorem slots_born (s : AS) (i : Nat) (es : List Ent) : (s.born i es).slots = s.slots := rfl

theorem obj_some {s : AS} {id : Id} {v : Nat} {fr : Bool} {c : AVal} (h : s.obj id = some (v, fr, c)) : s.ent id = some (.obj v fr c) := by
  unfold AS.obj at h
  split at h
  · rename_i h'; simp at h; obtain ⟨rfl, rfl, rfl⟩ := h; exact h'
  · cases h

/-- An object is set to another one of the same version or a later one; all else stays. -/
theorem EnvLe.setEnt {s : AS} {w w' : World} {g g' : Nat → Lab} {β β' : Id → Option Pl} {id : Id} {v v' : Nat} {fr fr' : Bool} {c c' : AVal} (hs : s.ent id = some (.obj v fr c)) (hv : v ≤ v')
    (ht : Trans w w' g g') (hβ : ∀ i, i ≠ id → β' i = β i) (hβ' : v' = v → β' id = β id) : EnvLe (s.env w g β) ((s.setEnt id (.obj v' fr' c')).env w' g' β') := by
  have hself := ent_setEnt_self s id (.obj v' fr' c') (by rw [hs]; simp)
  refine ⟨Trans.mem ht, fun i ver hb => ?_, fun i ver hb hc => ?_⟩
  · by_cases hi : i = id
    · subst hi
      obtain ⟨_, h2⟩ := hb
      refine ⟨by show (s.setEnt i (.obj v' fr' c')).ent i ≠ none; rw [hself]; simp, fun v'' fr'' c'' he => ?_⟩
      have he' : (s.setEnt i (.obj v' fr' c')).ent i = some (.obj v'' fr'' c'') := he
      rw [hself] at he'
      simp only [Option.some.injEq, Ent.obj.injEq] at he'
      have := h2 v fr c hs
      omega
    · have := ent_setEnt_other s id i (.obj v' fr' c') hi
      obtain ⟨h1, h2⟩ := hb
      exact ⟨by show (s.setEnt id (.obj v' fr' c')).ent i ≠ none; rw [this]; exact h1, fun v'' fr'' c'' he => h2 v'' fr'' c'' (this.symm.trans he)⟩
  · obtain ⟨fr'', c'', hc⟩ := hc
    by_cases hi : i = id
    · subst hi
      have hc' : (s.setEnt i (.obj v' fr' c')).ent i = some (.obj ver fr'' c'') := hc
      rw [hself] at hc'
      simp only [Option.some.injEq, Ent.obj.injEq] at hc'
      have h2 := hb.2 v fr c hs
      have e : v' = v := by omega
      refine ⟨⟨fr, c, ?_⟩, hβ' e⟩
      rw [← hc'.1, e]; exact hs
    · have hc' : (s.setEnt id (.obj v' fr' c')).ent i = some (.obj ver fr'' c'') := hc
      rw [ent_setEnt_other s id i _ hi] at hc'
      exact ⟨⟨fr'', c'', hc'⟩, hβ i hi⟩

/-- All objects, when one is set. -/
theorem Objs.setEnt {s : AS} {w w' : World} {g g' : Nat → Lab} {β β' : Id → Option Pl} {id : Id} {v' : Nat} {fr' : Bool} {c' : AVal} (h : Objs (s.env w g β)) (hne : s.ent id ≠ none)
    (he : EnvLe (s.env w g β) ((s.setEnt id (.obj v' fr' c')).env w' g' β')) (hβ : ∀ i, i ≠ id → β' i = β i)
    (hb : ∀ i ver fr c pl, i ≠ id → s.ent i = some (.obj ver fr c) → β i = some pl → w'.heap[pl.b]? = w.heap[pl.b]? ∧ g' pl.b = g pl.b)
    (ho : ObjR ((s.setEnt id (.obj v' fr' c')).env w' g' β') id fr' c') : Objs ((s.setEnt id (.obj v' fr' c')).env w' g' β') := by
  intro i ver fr c hi
  by_cases hid : i = id
  · subst hid
    have hi' : (s.setEnt i (.obj v' fr' c')).ent i = some (.obj ver fr c) := hi
    rw [ent_setEnt_self s i _ hne] at hi'
    simp only [Option.some.injEq, Ent.obj.injEq] at hi'
    obtain ⟨rfl, rfl, rfl⟩ := hi'
    exact ho
  · have hi' : (s.setEnt id (.obj v' fr' c')).ent i = some (.obj ver fr c) := hi
    rw [ent_setEnt_other s id i _ hid] at hi'
    exact (h i ver fr c hi').mono he (hβ i hid) fun pl hp => hb i ver fr c pl hid hi' hp

/-- The block of an object that may be written. -/
theorem ObjR.label {E : Env} {id : Id} {fr : Bool} {c : AVal} (h : ObjR E id fr c) {pl : Pl} (hp : E.β id = some pl) :
    pl.b < E.w.heap.size ∧ ((∃ k, E.g pl.b = .own (.id id) k) ∨ (fr = true ∧ E.g pl.b = .free)) := by
  by_cases hn : c.isVec = false
  · obtain ⟨pl', cur, e, h1, h2, h3, h4⟩ := h.box hn
    rw [hp] at h1
    obtain rfl : pl = pl' := by simpa using h1
    refine ⟨(Array.getElem?_eq_some_iff.1 h2).1, ?_⟩
    cases fr with
    | true => exact .inr ⟨rfl, h3⟩
    | false => exact .inl ⟨0, h3⟩
  · cases c <;> first | (exact absurd rfl hn) | skip
    obtain ⟨_, h⟩ := h
    rw [hp] at h
    obtain ⟨cur, k, h1, _, _, _, h5, _⟩ := h
    exact ⟨(Array.getElem?_eq_some_iff.1 h1).1, .inl ⟨k, h5⟩⟩

def upd1 {α : Type} (f : Nat → α) (b : Nat) (x : α) : Nat → α := fun b' => if b' = b then x else f b'
@[simp] theorem upd1_self {α : Type} (f : Nat → α) (b : Nat) (x : α) : upd1 f b x b = x := by simp [upd1]
theorem upd1_other {α : Type} (f : Nat → α) (b : Nat) (x : α) {b' : Nat} (h : b' ≠ b) : upd1 f b x b' = f b' := by simp [upd1, h]

/-! ### Freezing -/

def inVec : AVal → Nat → Prop
  | .vec _ t l, j => j < l.length * t.size
  | _, _ => True

theorem inVec.of {c : AVal} (h : c.isVec = false) (j : Nat) : inVec c j := by
  cases c <;> first | trivial | (simp [AVal.isVec] at h)

theorem freeze_sound {C : Ctx} {g : Nat → Lab} {β : Id → Option Pl} {s : AS} {a : Act} {w : World} (h : Inv C g β s a w) (id : Id) :
    ∃ g', Inv C g' β (s.freeze id) a w ∧ EnvLe (s.env w g β) ((s.freeze id).env w g' β) ∧ Trans w w g g' ∧
      (∀ v fr c, s.ent id = some (.obj v fr c) → ∀ pl, β id = some pl → ∀ j x, w.cell? ⟨pl.b, j, none⟩ = some x →
        inVec c j → okAt g' pl.b j) := by
  unfold AS.freeze
  cases hs : s.ent id with
  | none => exact ⟨g, h, EnvLe.refl _, Trans.refl _ _, fun _ _ _ hh => by cases hh⟩
  | some e =>
    cases e with
    | dead => exact ⟨g, h, EnvLe.refl _, Trans.refl _ _, fun _ _ _ hh => by cases hh⟩
    | obj v fr c =>
      simp only
      have hob : ObjR (s.env w g β) id fr c := h.objs id v fr c hs
      cases hp : β id with
      | none =>
        have ht := Trans.refl w g
        have he : EnvLe (s.env w g β) ((s.setEnt id (.obj v true c)).env w g β) := EnvLe.setEnt hs (Nat.le_refl _) ht (fun _ _ => rfl) (fun _ => rfl)
        refine ⟨g, h.step (slots_setEnt _ _ _) ht he ?_, he, ht, fun _ _ _ _ pl hpl => by cases hpl⟩
        refine Objs.setEnt h.objs (by rw [hs]; simp) he (fun _ _ => rfl) (fun _ _ _ _ _ _ _ _ => ⟨rfl, rfl⟩) ?_
        by_cases hn : c.isVec = false
        · obtain ⟨pl, _, _, h1, _⟩ := hob.box hn
          have h1' : β id = some pl := h1
          rw [hp] at h1'; cases h1'
        · cases c <;> first | (exact absurd rfl hn) | skip
          obtain ⟨hz, ho⟩ := hob
          have ho' : (match β id with
            | none => _
            | some pl => _) := ho
          refine ⟨hz, ?_⟩
          show (match β id with
            | none => _
            | some pl => _)
          rw [hp] at ho' ⊢
          exact ho'
      | some pl =>
        have hlab := hob.label (pl := pl) hp
        by_cases hn : c.isVec = false
        · obtain ⟨pl', cur, e, h1, h2, h3, h5, h4⟩ := hob.box hn
          have h1' : β id = some pl' := h1
          rw [hp] at h1'
          obtain rfl : pl = pl' := by simpa using h1'
          have h3' : g pl.b = boxLab id fr := h3
          have ht : Trans w w g (upd1 g pl.b .free) := by
            refine ⟨rfl, rfl, rfl, Nat.le_refl _, fun b hb => ?_⟩
            by_cases hbe : b = pl.b
            · subst hbe
              rw [h3', upd1_self]
              cases fr with
              | true => exact ⟨rfl, rfl⟩
              | false => exact ⟨.inl rfl, fun _ _ _ hh => hh⟩
            · rw [upd1_other _ _ _ hbe]
              exact (Trans.refl w g).blk b hb
          have he : EnvLe (s.env w g β) ((s.setEnt id (.obj v true c)).env w (upd1 g pl.b .free) β) := EnvLe.setEnt hs (Nat.le_refl _) ht (fun _ _ => rfl) (fun _ => rfl)
          refine ⟨upd1 g pl.b .free, h.step (slots_setEnt _ _ _) ht he ?_, he, ht, ?_⟩
          · refine Objs.setEnt h.objs (by rw [hs]; simp) he (fun _ _ => rfl) (fun i ver fr' c' pl' hi hent hpl => ⟨rfl, ?_⟩) ?_
            · by_cases hbe : pl'.b = pl.b
              · rw [hbe, upd1_self]
                have hl := (h.objs i ver fr' c' hent).label (pl := pl') hpl
                have hl2 : (∃ k, g pl'.b = .own (.id i) k) ∨ (fr' = true ∧ g pl'.b = .free) := hl.2
                rw [hbe, h3'] at hl2
                cases fr with
                | true => exact h3'.symm ▸ rfl
                | false =>
                  exfalso
                  rcases hl2 with ⟨k, hk⟩ | ⟨_, hk⟩
                  · simp only [boxLab, Lab.own.injEq, Own.id.injEq] at hk
                    exact hi hk.1.symm
                  · cases hk
              · rw [upd1_other _ _ _ hbe]
            · exact BoxR.obj ⟨pl, cur, e, hp, h2, upd1_self _ _ _, h5, V.mono he h4⟩
          · intro v1 fr1 c1 hh pl1 hpl1 j x hx hj
            obtain rfl : pl = pl1 := by simpa using hpl1
            unfold okAt; rw [upd1_self]; trivial
        · cases c <;> first | (exact absurd rfl hn) | skip
          rename_i e t l
          obtain ⟨hz, ho⟩ := hob
          have ho' : (match β id with
            | none => l = []
            | some pl => ∃ cur k, w.heap[pl.b]? = some (.cells cur e (0, 0)) ∧ cur.size = pl.cap * t.size ∧ l.length ≤ pl.cap ∧ pl.cap ≤ maxLen ∧ g pl.b = .own (.id id) k ∧
                k ≤ l.length * t.size ∧ (fr = false → k = 0) ∧ Chunks (Rep (s.env w g β) t) (cur.toList.take (l.length * t.size)) l) := ho
          rw [hp] at ho'
          obtain ⟨cur, k, h1, h2, h3, h4, h5, h6, h7, h8⟩ := ho'
          have ht : Trans w w g (upd1 g pl.b (.own (.id id) (l.length * t.size))) := by
            refine ⟨rfl, rfl, rfl, Nat.le_refl _, fun b hb => ?_⟩
            by_cases hbe : b = pl.b
            · subst hbe
              rw [h5, upd1_self]
              exact ⟨.inr ⟨id, _, rfl, h6⟩, fun _ _ _ hh => hh⟩
            · rw [upd1_other _ _ _ hbe]
              exact (Trans.refl w g).blk b hb
          have he : EnvLe (s.env w g β) ((s.setEnt id (.obj v true (.vec e t l))).env w (upd1 g pl.b (.own (.id id) (l.length * t.size))) β) := EnvLe.setEnt hs (Nat.le_refl _) ht (fun _ _ => rfl) (fun _ => rfl)
          refine ⟨_, h.step (slots_setEnt _ _ _) ht he ?_, he, ht, ?_⟩
          · refine Objs.setEnt h.objs (by rw [hs]; simp) he (fun _ _ => rfl) (fun i ver fr' c' pl' hi hent hpl => ⟨rfl, ?_⟩) ?_
            · by_cases hbe : pl'.b = pl.b
              · exfalso
                have hl := (h.objs i ver fr' c' hent).label (pl := pl') hpl
                have hl2 : (∃ k, g pl'.b = .own (.id i) k) ∨ (fr' = true ∧ g pl'.b = .free) := hl.2
                rw [hbe, h5] at hl2
                rcases hl2 with ⟨k, hk⟩ | ⟨_, hk⟩
                · simp only [Lab.own.injEq, Own.id.injEq] at hk
                  exact hi hk.1.symm
                · cases hk
              · rw [upd1_other _ _ _ hbe]
            · refine ⟨hz, ?_⟩
              show (match β id with
                | none => l = []
                | some pl => _)
              rw [hp]
              exact ⟨cur, _, h1, h2, h3, h4, upd1_self _ _ _, Nat.le_refl _, (by intro hh; cases hh), h8.mono fun c x hx => hx.mono he.mem⟩
          · intro v1 fr1 c1 hh pl1 hpl1 j x hx hj
            obtain rfl : pl = pl1 := by simpa using hpl1
            simp only [Option.some.injEq, Ent.obj.injEq] at hh
            obtain ⟨_, _, rfl⟩ := hh
            unfold okAt; rw [upd1_self]; exact hj

end Go.Ab

/-
  Soundness of the operations, first part: freezing many, data out of values, zero values, loads and stores.
-/
namespace Go.Ab

/-! ### Freezing many -/

/-- Data may hang on the objects of the ids from now on. -/
def Frz (E E' : Env) (ids : List Id) : Prop :=
  ∀ id ∈ ids, ∀ v fr c, E.s id = some (.obj v fr c) → ∀ pl, E.β id = some pl → ∀ j x, E.w.cell? ⟨pl.b, j, none⟩ = some x →
    inVec c j → E'.has pl.b j x

theorem ent_freeze {s : AS} {id i : Id} {v : Nat} {fr : Bool} {c : AVal} (h : s.ent i = some (.obj v fr c)) : ∃ fr', (s.freeze id).ent i = some (.obj v fr' c) := by
  unfold AS.freeze
  by_cases hi : i = id
  · subst hi
    rw [h]
    exact ⟨true, ent_setEnt_self s i _ (by rw [h]; simp)⟩
  · split
    · exact ⟨fr, by rw [ent_setEnt_other s id i _ hi]; exact h⟩
    · exact ⟨fr, h⟩

theorem freezeAll_sound {C : Ctx} {β : Id → Option Pl} {a : Act} {w : World} : ∀ (ids : List Id) {g : Nat → Lab} {s : AS}, Inv C g β s a w →
    ∃ g', Inv C g' β (s.freezeAll ids) a w ∧ EnvLe (s.env w g β) ((s.freezeAll ids).env w g' β) ∧ Trans w w g g' ∧ Frz (s.env w g β) ((s.freezeAll ids).env w g' β) ids
  | [], g, s, h => ⟨g, h, EnvLe.refl _, Trans.refl _ _, fun _ hi => by cases hi⟩
  | id :: ids, g, s, h => by
    obtain ⟨g1, h1, e1, t1, f1⟩ := freeze_sound h id
    obtain ⟨g2, h2, e2, t2, f2⟩ := freezeAll_sound ids h1
    refine ⟨g2, h2, e1.trans e2, t1.trans t2, fun i hi v fr c hs pl hp j x hx hj => ?_⟩
    rcases List.mem_cons.1 hi with rfl | hi
    · exact e2.mem.has _ _ _ ⟨hx, f1 v fr c hs pl hp j x hx hj⟩
    · obtain ⟨fr', hs'⟩ := ent_freeze (id := id) hs
      exact f2 i hi v fr' c hs' pl hp j x hx hj

theorem slots_freeze (s : AS) (id : Id) : (s.freeze id).slots = s.slots := by unfold AS.freeze; split <;> simp
theorem slots_freezeAll : ∀ (ids : List Id) (s : AS), (s.freezeAll ids).slots = s.slots
  | [], _ => rfl
  | id :: ids, s => by rw [AS.freezeAll, slots_freezeAll ids, slots_freeze]
theorem ev_freezeAll (s : AS) (ids : List Id) (x : Operand) : (s.freezeAll ids).ev x = s.ev x := by
  cases x <;> simp [AS.ev, AS.slot, slots_freezeAll]
theorem news_freeze (s : AS) (id : Id) (q : Nat) : (s.freeze id).virgin q = s.virgin q := by
  unfold AS.freeze
  split
  · rename_i v b c h
    cases id with
    | old k => rfl
    | new i j =>
      simp only [AS.setEnt, AS.virgin]
      by_cases hq : i = q
      · subst hq
        simp only [AS.ent] at h
        by_cases hl : i < s.news.length
        · rw [List.getElem?_set_self hl, List.getElem?_eq_getElem hl]
          rw [List.getD_eq_getElem?_getD, List.getElem?_eq_getElem hl] at h ⊢
          simp only [Option.getD_some] at h ⊢
          cases hh : s.news[i] with
          | nil => rw [hh] at h; simp at h
          | cons x xs => cases j <;> simp [List.set]
        · rw [List.set_eq_of_length_le (by omega)]
      · rw [List.getElem?_set_ne hq]
  · rfl
theorem virgin_freezeAll : ∀ (ids : List Id) (s : AS) (q : Nat), (s.freezeAll ids).virgin q = s.virgin q
  | [], _, _ => rfl
  | id :: ids, s, q => by rw [AS.freezeAll, virgin_freezeAll ids, news_freeze]

/-! ### Rows -/

theorem loc_none {e : TypeId} {t : Ty} : ∀ {p : List Stp} {n : Nat} {v : AVal}, (loc (.vec e t []) p).eval = some (n, v) → n = 0 ∧ v = .vec e t []
  | [], n, v, h => by
    simp only [loc, eval_ok, Prod.mk.injEq] at h
    exact ⟨h.1.symm, h.2.symm⟩
  | .arr :: p, n, v, h => by
    simp only [loc] at h
    exact loc_none h
  | .idx i :: p, n, v, h => by simp [loc, eval_chk] at h
  | .fst :: p, n, v, h => by simp only [loc, eval_fail] at h
  | .snd :: p, n, v, h => by simp only [loc, eval_fail] at h

theorem row_sound {E : Env} {s : AS} (hs : E.s = s.ent) (ho : Objs E) {id : Id} {ver : Nat} {p : List Stp} {n : Nat} {t : Ty} {l : List t.den} (h : (s.row id ver p).eval = some (n, ⟨t, l⟩)) :
    ∃ fr c, E.s id = some (.obj ver fr c) ∧ ((E.β id = none ∧ l = [] ∧ n = 0) ∨ ∃ pl cur e, E.β id = some pl ∧ E.w.heap[pl.b]? = some (.cells cur e (0, 0)) ∧ n + l.length * t.size ≤ cur.size ∧
      Chunks (Rep E t) ((cur.toList.drop n).take (l.length * t.size)) l ∧
      ∀ j, j < n + l.length * t.size → inVec c j) := by
  unfold AS.row at h
  cases hob : s.obj id with
  | none => rw [hob] at h; simp only [eval_fail] at h
  | some r =>
    obtain ⟨v, fr, c⟩ := r
    rw [hob] at h
    obtain ⟨h1, h2⟩ := eval_guard.1 h
    obtain ⟨⟨n', v'⟩, h3, h4⟩ := eval_bind.1 h2
    have hv : v = ver := by simpa using h1
    subst hv
    have hent : E.s id = some (.obj v fr c) := by rw [hs]; exact obj_some hob
    refine ⟨fr, c, hent, ?_⟩
    have hO := ho id v fr c hent
    have harr : ∀ (pl : Pl) (cur : Array Value) (e : TypeId) (m : Nat) (t' : Ty) (l' : List t'.den) (n' : Nat), E.β id = some pl → E.w.heap[pl.b]? = some (.cells cur e (0, 0)) → c.isVec = false →
        V E (.d (.arr m t') l') ((cur.toList.drop n').take (AVal.d (.arr m t') l').size) → n' + (AVal.d (.arr m t') l').size ≤ cur.toList.length → (Out.ok (n', (⟨t', l'⟩ : (t : Ty) × List t.den))).eval = some (n, ⟨t, l⟩) →
        ∃ pl cur e, E.β id = some pl ∧ E.w.heap[pl.b]? = some (.cells cur e (0, 0)) ∧ n + l.length * t.size ≤ cur.size ∧ Chunks (Rep E t) ((cur.toList.drop n).take (l.length * t.size)) l ∧
          ∀ j, j < n + l.length * t.size → inVec c j := by
      intro pl cur e m t' l' n' hp hh hn hv hl he
      simp only [eval_ok, Prod.mk.injEq] at he
      obtain ⟨rfl, he⟩ := he
      obtain ⟨rfl, he⟩ := he
      simp only [V, Rep] at hv
      obtain ⟨hv1, hv2⟩ := hv
      have hsz : ∀ (t : Ty) (l : List t.den), l.length = m → (AVal.d (.arr m t) l).size = l.length * t.size := fun t l hh => by simp [AVal.size, Ty.size, hh]
      rw [hsz _ _ hv1] at hv2 hl
      exact ⟨pl, cur, e, hp, hh, by simpa using hl, hv2, fun j _ => inVec.of hn j⟩
    by_cases hn : c.isVec = false
    · right
      obtain ⟨pl, cur, e, hp, hh, hg, _, hV⟩ := hO.box hn
      obtain ⟨u, hu⟩ : ∃ u, c.strip = u := ⟨_, rfl⟩
      rw [hu] at hV h3
      rcases loc_sound p u cur.toList n' v' (VO.of hV) h3 with ⟨rfl, rfl⟩ | ⟨hV', hle⟩
      · cases v' with
        | d t' x => cases t' with
          | arr m t' =>
            refine harr pl cur e m t' x 0 hp hh hn ?_ ?_ (by simpa only using h4)
            · have := hV.size
              rw [List.drop_zero, List.take_of_length_le (by omega)]
              exact hV
            · have := hV.size; omega
          | _ => simp only [eval_fail] at h4
        | vec => simp only [V] at hV
        | _ => simp only [eval_fail] at h4
      · cases v' with
        | d t' x => cases t' with
          | arr m t' => exact harr pl cur e m t' x n' hp hh hn hV' hle (by simpa only using h4)
          | _ => simp only [eval_fail] at h4
        | vec => simp only [V] at hV'
        | _ => simp only [eval_fail] at h4
    · cases c <;> first | (exact absurd rfl hn) | skip
      rename_i e t0 l0
      obtain ⟨hz, hO⟩ := hO
      cases hp : E.β id with
      | none =>
        rw [hp] at hO
        have hl0 : l0 = [] := hO
        subst hl0
        obtain ⟨rfl, rfl⟩ := loc_none h3
        simp only [eval_ok, Prod.mk.injEq] at h4
        obtain ⟨rfl, he⟩ := h4
        obtain ⟨rfl, he⟩ := he
        exact .inl ⟨rfl, rfl, rfl⟩
      | some pl =>
        rw [hp] at hO
        obtain ⟨cur, k, q1, q2, q3, q4, q5, q6, q7, q8⟩ := hO
        right
        have hlen : (cur.toList.take (l0.length * t0.size)).length = l0.length * t0.size := Chunks.length (fun c x hx => Rep.size hx) q8
        have hsize : l0.length * t0.size ≤ cur.size := by rw [q2]; exact Nat.mul_le_mul_right _ q3
        rcases loc_sound (E := E) p (.vec e t0 l0) (cur.toList.take (l0.length * t0.size)) n' v' q8 h3 with ⟨rfl, rfl⟩ | ⟨hV', hle⟩
        · simp only [eval_ok, Prod.mk.injEq] at h4
          obtain ⟨rfl, he⟩ := h4
          obtain ⟨rfl, he⟩ := he
          exact ⟨pl, cur, e, rfl, q1, by omega, by simpa using q8, fun j hj => by show j < l.length * t.size; omega⟩
        · have hle' := hle
          rw [hlen] at hle'
          rw [List.drop_take, List.take_take, Nat.min_eq_left (by omega)] at hV'
          cases v' with
          | d t' x => cases t' with
            | arr m t' =>
              simp only [eval_ok, Prod.mk.injEq] at h4
              obtain ⟨rfl, he⟩ := h4
              obtain ⟨rfl, he⟩ := he
              simp only [V, Rep] at hV'
              obtain ⟨hv1, hv2⟩ := hV'
              have hsz : ∀ (t : Ty) (l : List t.den), l.length = m → (AVal.d (.arr m t) l).size = l.length * t.size := fun t l hh => by simp [AVal.size, Ty.size, hh]
              rw [hsz _ _ hv1] at hv2 hle'
              refine ⟨pl, cur, e, rfl, q1, by omega, hv2, fun j hj => ?_⟩
              show j < l0.length * t0.size
              omega
            | _ => simp only [eval_fail] at h4
          | vec => simp only [V] at hV'
          | _ => simp only [eval_fail] at h4

theorem chunks_cut {E : Env} {t : Ty} {cs : List Value} {l : List t.den} (h : Chunks (Rep E t) cs l) (i len : Nat) : Chunks (Rep E t) ((cs.drop (i * t.size)).take (len * t.size)) (cut l i len) :=
  Chunks.take (fun _ _ hx => hx.size) len (Chunks.drop (fun _ _ hx => hx.size) i h)

theorem cut_length {α : Type} {l : List α} {i len : Nat} (h : i + len ≤ l.length) : (cut l i len).length = len := by
  simp [cut]; omega

/-! ### Data out of values -/

theorem toTy_rep {E E' : Env} {s : AS} (hs : E.s = s.ent) (ho : Objs E) (he : EnvLe E E') : ∀ (v : AVal) (t : Ty) (x : t.den) (cs : List Value), V E v cs → (s.toTy t v).eval = some x → Frz E E' v.shared → Rep E' t cs x
  | .d t' x', t, x, cs, hv, h, _ => by
    have h' : (Out.opt (castTy t' t x')).eval = some x := by cases t <;> simpa only [AS.toTy] using h
    obtain ⟨rfl, h'⟩ := castTy_some (eval_opt.1 h')
    simp only at h'
    subst h'
    simp only [V] at hv
    exact hv.mono he.mem
  | .nils, .slice t, x, cs, hv, h, _ => by
    simp only [AS.toTy, eval_ok] at h
    subst h
    simp only [V] at hv
    simp only [Rep]
    exact ⟨none, 0, [], by simpa using hv, by simp, by simp, fun i v hh => by simp at hh, rfl⟩
  | .sref id ver p c i len, .slice t, x, cs, hv, h, hf => by
    simp only [AS.toTy] at h
    obtain ⟨⟨n, t', l⟩, h1, h2⟩ := eval_bind.1 h
    obtain ⟨h3, h4⟩ := eval_chk.1 h2
    obtain ⟨hty, h5⟩ := castTy_some (eval_opt.1 h4)
    simp only [Ty.slice.injEq] at hty
    have hty' : t' = t := hty
    subst hty'
    simp only at h5
    subst h5
    simp only [decide_eq_true_eq] at h3
    obtain ⟨hc, hlen⟩ := h3
    obtain ⟨fr, c0, hent, hrow⟩ := row_sound hs ho h1
    simp only [V] at hv
    obtain ⟨a, cap, hcs, hle, hsome, hb, hcur⟩ := hv
    have hcur := hcur ⟨fr, c0, hent⟩
    have hxl : (cut l i len).length = len := cut_length hlen
    simp only [Rep]
    refine ⟨a, cap, ?_⟩
    rcases hrow with ⟨hp, hl, _⟩ | ⟨pl, cur, e, hp, hh, hsz, hch, hbound⟩
    · rw [hp] at hcur
      simp only at hcur
      obtain ⟨rfl, rfl, rfl⟩ := hcur
      refine ⟨[], ?_, by omega, by omega, fun _ _ hh => by simp at hh, ?_⟩
      · rw [hxl]; exact hcs
      · have : cut l i 0 = [] := by simp [cut]
        rw [this]; rfl
    · rw [hp] at hcur
      simp only at hcur
      refine ⟨((((cur.toList.drop n).take (l.length * t'.size)).drop (i * t'.size)).take (len * t'.size)), by rw [hxl]; exact hcs, by omega, by rw [hxl]; exact hsome, ?_, (chunks_cut hch i len).mono fun _ _ hx => hx.mono he.mem⟩
      have hmul : (i + len) * t'.size ≤ l.length * t'.size := Nat.mul_le_mul_right _ hlen
      rw [Nat.add_mul] at hmul
      rw [part_mid _ _ _ _ _ hmul]
      intro j v hj
      rw [List.getElem?_take] at hj
      split at hj
      · rename_i hjl
        rw [List.getElem?_drop, hc] at hj
        have hlp : 0 < len := by
          rcases Nat.eq_zero_or_pos len with h0 | h0
          · subst h0; simp at hjl
          · exact h0
        refine ⟨pl.b, c, hcur.1 (.inl hlp), ?_⟩
        refine hf id (by simp [AVal.shared]) ver fr c0 hent pl hp (c + j) v ?_ (hbound _ (by omega))
        rw [cell_of_row E.w pl.b (c + j) cur e (0, 0) hh]
        simpa using hj
      · cases hj
  | .pr a b, .pair ta tb, x, cs, hv, h, hf => by
    simp only [AS.toTy] at h
    obtain ⟨x1, h1, h2⟩ := eval_bind.1 h
    obtain ⟨x2, h3, h4⟩ := eval_bind.1 h2
    obtain rfl := eval_ok.1 h4
    simp only [V] at hv
    obtain ⟨ca, cb, e, ha, hb⟩ := hv
    simp only [Rep]
    exact ⟨ca, cb, e, toTy_rep hs ho he a ta x1 ca ha h1 (fun i hi => hf i (by simp [AVal.shared, hi])), toTy_rep hs ho he b tb x2 cb hb h3 (fun i hi => hf i (by simp [AVal.shared, hi]))⟩
  | .nils, .int _, _, _, _, h, _ | .nils, .bool, _, _, _, h, _ | .nils, .str, _, _, _, h, _ | .nils, .unit, _, _, _, h, _ | .nils, .pair _ _, _, _, _, h, _ | .nils, .arr _ _, _, _, _, h, _ => by simp only [AS.toTy, eval_fail] at h
  | .sref .., .int _, _, _, _, h, _ | .sref .., .bool, _, _, _, h, _ | .sref .., .str, _, _, _, h, _ | .sref .., .unit, _, _, _, h, _ | .sref .., .pair _ _, _, _, _, h, _ | .sref .., .arr _ _, _, _, _, h, _ => by simp only [AS.toTy, eval_fail] at h
  | .pr _ _, .int _, _, _, _, h, _ | .pr _ _, .bool, _, _, _, h, _ | .pr _ _, .str, _, _, _, h, _ | .pr _ _, .unit, _, _, _, h, _ | .pr _ _, .slice _, _, _, _, h, _ | .pr _ _, .arr _ _, _, _, _, h, _ => by simp only [AS.toTy, eval_fail] at h
  | .undef, t, _, _, _, h, _ => by cases t <;> simp only [AS.toTy, eval_fail] at h
  | .gone, t, _, _, _, h, _ => by cases t <;> simp only [AS.toTy, eval_fail] at h
  | .nilp, t, _, _, _, h, _ => by cases t <;> simp only [AS.toTy, eval_fail] at h
  | .nilf, t, _, _, _, h, _ => by cases t <;> simp only [AS.toTy, eval_fail] at h
  | .nilm, t, _, _, _, h, _ => by cases t <;> simp only [AS.toTy, eval_fail] at h
  | .sb _, t, _, _, _, h, _ => by cases t <;> simp only [AS.toTy, eval_fail] at h
  | .ptr .., t, _, _, _, h, _ => by cases t <;> simp only [AS.toTy, eval_fail] at h
  | .rptr .., t, _, _, _, h, _ => by cases t <;> simp only [AS.toTy, eval_fail] at h
  | .fn .., t, _, _, _, h, _ => by cases t <;> simp only [AS.toTy, eval_fail] at h
  | .cons .., t, _, _, _, h, _ => by cases t <;> simp only [AS.toTy, eval_fail] at h
  | .nil, t, _, _, _, h, _ => by cases t <;> simp only [AS.toTy, eval_fail] at h
  | .vec .., t, _, _, _, h, _ => by cases t <;> simp only [AS.toTy, eval_fail] at h
  | .bx .., t, _, _, _, h, _ => by cases t <;> simp only [AS.toTy, eval_fail] at h

theorem toTy_celled {s : AS} {t : Ty} {v : AVal} {x : t.den} (h : (s.toTy t v).eval = some x) : v.celled = true := by
  cases v <;> first
    | rfl
    | (cases t <;> simp only [AS.toTy, eval_fail] at h)

theorem toTy_agg {s : AS} {t : Ty} {v : AVal} {x : t.den} (h : (s.toTy t v).eval = some x) : v.agg = t.agg := by
  cases v with
  | d t' x' =>
    have h' : (Out.opt (castTy t' t x')).eval = some x := by cases t <;> simpa only [AS.toTy] using h
    obtain ⟨rfl, _⟩ := castTy_some (eval_opt.1 h')
    rfl
  | _ => cases t <;> first | rfl | (simp only [AS.toTy, eval_fail] at h)

/-- A value in a slot, as data. -/
theorem toTy_sound {C : Ctx} {g : Nat → Lab} {β : Id → Option Pl} {s : AS} {a : Act} {w : World} (h : Inv C g β s a w) {v : AVal} {y : Value} (hv : VS (s.env w g β) v y) {t : Ty} {x : t.den} (ht : (s.toTy t v).eval = some x) :
    ∃ g', Inv C g' β (s.freezeAll v.shared) a w ∧ EnvLe (s.env w g β) ((s.freezeAll v.shared).env w g' β) ∧ Trans w w g g' ∧
      ∃ cs, Rep ((s.freezeAll v.shared).env w g' β) t cs x ∧ OfCells t.agg cs y := by
  obtain ⟨g', h1, h2, h3, h4⟩ := freezeAll_sound v.shared h
  obtain ⟨cs, hV, hO⟩ := hv.celled (toTy_celled ht)
  exact ⟨g', h1, h2, h3, cs, toTy_rep rfl h.objs h2 v t x cs hV ht h4, by rw [← toTy_agg ht]; exact hO⟩

/-! ### Zero values -/

theorem eatL_sound {α : Type} {R : List Value → α → Prop} {f : α → List Value → Option (List Value)} (hf : ∀ x cs r, f x cs = some r → ∃ c, cs = c ++ r ∧ R c x) :
    ∀ (l : List α) (cs r : List Value), eatL f l cs = some r → ∃ c, cs = c ++ r ∧ Chunks R c l
  | [], cs, r, h => by
    simp only [eatL, Option.some.injEq] at h
    exact ⟨[], by simp [h], rfl⟩
  | x :: xs, cs, r, h => by
    simp only [eatL] at h
    cases hx : f x cs with
    | none => rw [hx] at h; cases h
    | some r1 =>
      rw [hx] at h
      obtain ⟨c1, e1, h1⟩ := hf x cs r1 hx
      obtain ⟨c2, e2, h2⟩ := eatL_sound hf xs r1 r h
      exact ⟨c1 ++ c2, by rw [e1, e2, List.append_assoc], c1, c2, rfl, h1, h2⟩

theorem eatT_sound (E : Env) : ∀ (t : Ty) (x : t.den) (cs r : List Value), eatT t x cs = some r → ∃ c, cs = c ++ r ∧ Rep E t c x
  | .int k, x, cs, r, h => by
    cases cs with
    | nil => simp [eatT] at h
    | cons v r' =>
      cases v <;> simp only [eatT] at h <;> try (cases h; done)
      rename_i k' n
      split at h
      · rename_i h1 h2
        simp at h1 h2 h
        subst h1 h2 h
        exact ⟨[.int k n], rfl, by simp [Rep]⟩
      · cases h
  | .bool, x, cs, r, h => by
    cases cs with
    | nil => simp [eatT] at h
    | cons v r' =>
      cases v <;> simp only [eatT] at h <;> try (cases h; done)
      rename_i b
      split at h
      · rename_i h1
        simp at h1 h
        subst h1 h
        exact ⟨[.bool b], rfl, by simp [Rep]⟩
      · cases h
  | .str, x, cs, r, h => by
    cases cs with
    | nil => simp [eatT] at h
    | cons v r' =>
      cases v <;> simp only [eatT] at h <;> try (cases h; done)
      rename_i b
      split at h
      · rename_i h1
        simp at h1 h
        subst h1 h
        exact ⟨[.string b], rfl, by simp [Rep]⟩
      · cases h
  | .slice t, x, cs, r, h => by
    cases x with
    | cons _ _ => simp [eatT] at h
    | nil =>
      cases cs with
      | nil => simp [eatT] at h
      | cons v r' =>
        unfold eatT at h
        split at h <;> try (cases h; done)
        all_goals simp_all
        exact ⟨[.slice none 0 0], rfl, by simp only [Rep]; exact ⟨none, 0, [], rfl, by simp, by simp, fun i v hh => by simp at hh, rfl⟩⟩
  | .unit, x, cs, r, h => by
    simp only [eatT, Option.some.injEq] at h
    exact ⟨[], by simp [h], by simp [Rep]⟩
  | .pair a b, x, cs, r, h => by
    simp only [eatT] at h
    cases hx : eatT a x.1 cs with
    | none => rw [hx] at h; cases h
    | some r1 =>
      rw [hx] at h
      obtain ⟨c1, e1, h1⟩ := eatT_sound E a x.1 cs r1 hx
      obtain ⟨c2, e2, h2⟩ := eatT_sound E b x.2 r1 r h
      exact ⟨c1 ++ c2, by rw [e1, e2, List.append_assoc], by simp only [Rep]; exact ⟨c1, c2, rfl, h1, h2⟩⟩
  | .arr n t, x, cs, r, h => by
    simp only [eatT] at h
    split at h
    · rename_i h1
      obtain ⟨c, e, hc⟩ := eatL_sound (fun x cs r hh => eatT_sound E t x cs r hh) _ _ _ h
      exact ⟨c, e, by simp only [Rep]; exact ⟨by simpa using h1, hc⟩⟩
    · cases h

theorem eatA_sound (E : Env) : ∀ (a : AVal) (cs r : List Value), eatA a cs = some r → ∃ c, cs = c ++ r ∧ V E a c := by
  intro a
  induction a with
  | d t x =>
    intro cs r h
    simp only [eatA] at h
    obtain ⟨c, e, hc⟩ := eatT_sound E t x cs r h
    exact ⟨c, e, by simpa only [V] using hc⟩
  | pr a b iha ihb =>
    intro cs r h
    simp only [eatA] at h
    cases hx : eatA a cs with
    | none => rw [hx] at h; cases h
    | some r1 =>
      rw [hx] at h
      obtain ⟨c1, e1, h1⟩ := iha cs r1 hx
      obtain ⟨c2, e2, h2⟩ := ihb r1 r h
      exact ⟨c1 ++ c2, by rw [e1, e2, List.append_assoc], by simp only [V]; exact ⟨c1, c2, rfl, h1, h2⟩⟩
  | nils => intro cs r h; unfold eatA at h; split at h <;> simp_all <;> exact ⟨[.slice none 0 0], rfl, by simp [V]⟩
  | nilp => intro cs r h; unfold eatA at h; split at h <;> simp_all <;> exact ⟨[.pointer none], rfl, by simp [V]⟩
  | nilf => intro cs r h; unfold eatA at h; split at h <;> simp_all <;> exact ⟨[.nilFunc], rfl, by simp [V]⟩
  | nilm => intro cs r h; unfold eatA at h; split at h <;> simp_all <;> exact ⟨[.map none], rfl, by simp [V]⟩
  | _ => intro cs r h; simp [eatA] at h

theorem zchk_sound {P : Program} {T : TypeId} {z : AVal} (h : zchk P T z = true) (E : Env) :
    ∃ i zv, P.info? T = some i ∧ i.zero = some zv ∧ V E z zv.cells.toList ∧ OfCells z.agg zv.cells.toList zv := by
  unfold zchk at h
  split at h <;> try (cases h; done)
  rename_i i hi
  split at h <;> try (cases h; done)
  rename_i zv hz
  simp only [Bool.and_eq_true, beq_iff_eq] at h
  obtain ⟨h1, h2⟩ := h
  split at h1 <;> try (cases h1; done)
  rename_i he
  obtain ⟨c, e, hV⟩ := eatA_sound E z _ _ he
  rw [List.append_nil] at e
  rw [← e] at hV
  refine ⟨i, zv, hi, hz, hV, ?_⟩
  cases hagg : z.agg with
  | true =>
    rw [hagg] at h2
    cases zv <;> simp [isAggV] at h2
    simp [OfCells, Value.cells]
  | false =>
    rw [hagg] at h2
    cases zv <;> first | (simp [isAggV] at h2; done) | simp [OfCells, Value.cells]

end Go.Ab
