/-
  The abstract machine, a part.
-/
import Derived.Test.YtglpcfdjdabdnaaAb0

/-
  How abstract values lie in memory: the relation, and its plain laws.
-/
namespace Go.Ab

inductive Own where
  | foreign
  | id (i : Id)

/-- Who may write a block: nobody; or one, but for its first cells. -/
inductive Lab where
  | free
  | own (o : Own) (k : Nat)

structure Pl where
  b : Nat
  cap : Nat

structure Env where
  w : World
  g : Nat → Lab
  β : Id → Option Pl
  s : Id → Option Ent

def okAt (g : Nat → Lab) (b off : Nat) : Prop := match g b with | .free => True | .own _ k => off < k

/-- Cells that data may hang on: they are there, and nobody writes them. -/
def Env.has (E : Env) (b off : Nat) (v : Value) : Prop := E.w.cell? ⟨b, off, none⟩ = some v ∧ okAt E.g b off

def Chunks {α : Type} (R : List Value → α → Prop) : List Value → List α → Prop
  | cs, [] => cs = []
  | cs, x :: xs => ∃ c cs', cs = c ++ cs' ∧ R c x ∧ Chunks R cs' xs

def RowAt (E : Env) (a : Option Addr) (vs : List Value) : Prop :=
  ∀ i v, vs[i]? = some v → ∃ b off, a = some ⟨b, off, none⟩ ∧ E.has b (off + i) v

def Rep (E : Env) : (t : Ty) → List Value → t.den → Prop
  | .int k, cs, x => cs = [.int k x]
  | .bool, cs, x => cs = [.bool x]
  | .str, cs, x => cs = [.string x]
  | .slice t, cs, l => ∃ a cap vs, cs = [.slice a (l : List t.den).length cap] ∧ (l : List t.den).length ≤ cap ∧ (0 < (l : List t.den).length → a.isSome = true) ∧ RowAt E a vs ∧ Chunks (Rep E t) vs l
  | .unit, cs, _ => cs = []
  | .pair a b, cs, x => ∃ ca cb, cs = ca ++ cb ∧ Rep E a ca x.1 ∧ Rep E b cb x.2
  | .arr n t, cs, l => (l : List t.den).length = n ∧ Chunks (Rep E t) cs l

/-! ### Chunks -/

section
variable {α : Type} {R R' : List Value → α → Prop} {z : Nat}

theorem Chunks.mono (h : ∀ c x, R c x → R' c x) : ∀ {cs : List Value} {l : List α}, Chunks R cs l → Chunks R' cs l
  | _, [], hc => hc
  | _, _ :: _, ⟨c, cs', e, hx, hr⟩ => ⟨c, cs', e, h _ _ hx, Chunks.mono h hr⟩

theorem Chunks.length (h : ∀ c x, R c x → c.length = z) : ∀ {cs : List Value} {l : List α}, Chunks R cs l → cs.length = l.length * z
  | cs, [], hc => by
    have : cs = [] := hc
    simp [this]
  | _, x :: xs, ⟨c, cs', e, hx, hr⟩ => by
    rw [e, List.length_append, h c x hx, Chunks.length h hr, List.length_cons, Nat.add_mul, Nat.one_mul, Nat.add_comm]

theorem Chunks.all {p : Value → Prop} (h : ∀ c x, R c x → ∀ v ∈ c, p v) : ∀ {cs : List Value} {l : List α}, Chunks R cs l → ∀ v ∈ cs, p v
  | cs, [], hc, v, hv => by
    have : cs = [] := hc
    simp [this] at hv
  | _, _ :: _, ⟨c, cs', e, hx, hr⟩, v, hv => by
    rw [e] at hv
    rcases List.mem_append.1 hv with hv | hv
    · exact h _ _ hx v hv
    · exact Chunks.all h hr v hv

theorem Chunks.append : ∀ {cs : List Value} {l : List α} {cs' : List Value} {l' : List α}, Chunks R cs l → Chunks R cs' l' → Chunks R (cs ++ cs') (l ++ l')
  | cs, [], _, _, hc, h' => by
    have : cs = [] := hc
    simpa [this] using h'
  | _, x :: xs, _, _, ⟨c, cs1, e, hx, hr⟩, h' => ⟨c, cs1 ++ _, by rw [e, List.append_assoc], hx, Chunks.append hr h'⟩

theorem Chunks.take (h : ∀ c x, R c x → c.length = z) : ∀ {cs : List Value} {l : List α} (n : Nat), Chunks R cs l → Chunks R (cs.take (n * z)) (l.take n)
  | cs, [], n, hc => by
    have : cs = [] := hc
    simp [this, Chunks]
  | _, x :: xs, 0, _ => by simp [Chunks]
  | _, x :: xs, n + 1, ⟨c, cs', e, hx, hr⟩ => by
    refine ⟨c, cs'.take (n * z), ?_, hx, Chunks.take h n hr⟩
    rw [e, List.take_append, h c x hx, Nat.add_mul, Nat.one_mul, List.take_of_length_le (by rw [h c x hx]; omega), Nat.add_sub_cancel]

theorem Chunks.drop (h : ∀ c x, R c x → c.length = z) : ∀ {cs : List Value} {l : List α} (n : Nat), Chunks R cs l → Chunks R (cs.drop (n * z)) (l.drop n)
  | cs, [], n, hc => by
    have : cs = [] := hc
    simp [this, Chunks]
  | _, x :: xs, 0, hc => by simpa using hc
  | _, x :: xs, n + 1, ⟨c, cs', e, hx, hr⟩ => by
    rw [e, List.drop_append, h c x hx, Nat.add_mul, Nat.one_mul, List.drop_of_length_le (by rw [h c x hx]; omega), Nat.add_sub_cancel]
    simpa using Chunks.drop h n hr

theorem Chunks.get (h : ∀ c x, R c x → c.length = z) {cs : List Value} {l : List α} (hc : Chunks R cs l) (i : Nat) (hi : i < l.length) : R ((cs.drop (i * z)).take z) l[i] := by
  have h1 := Chunks.take h 1 (Chunks.drop h i hc)
  rw [List.drop_eq_getElem_cons hi] at h1
  simp only [Nat.one_mul, List.take_succ_cons, List.take_zero] at h1
  obtain ⟨c, cs', e, hx, hr⟩ := h1
  have : cs' = [] := hr
  rw [e, this, List.append_nil]
  exact hx

theorem Chunks.set (h : ∀ c x, R c x → c.length = z) {cs : List Value} {l : List α} (hc : Chunks R cs l) (i : Nat) (hi : i < l.length) {c : List Value} {x : α} (hx : R c x) :
    Chunks R (cs.take (i * z) ++ c ++ cs.drop (i * z + c.length)) (l.set i x) := by
  rw [List.set_eq_take_append_cons_drop, if_pos hi, h c x hx]
  have h1 := Chunks.take h i hc
  have h2 := Chunks.drop h (i + 1) hc
  rw [Nat.add_mul, Nat.one_mul] at h2
  have h3 : Chunks R (c ++ cs.drop (i * z + z)) (x :: l.drop (i + 1)) := ⟨c, _, rfl, hx, h2⟩
  rw [List.append_assoc]
  exact Chunks.append h1 h3

theorem Chunks.one {c : List Value} {x : α} (h : R c x) : Chunks R c [x] := ⟨c, [], by simp, h, rfl⟩
end

/-! ### Data -/

theorem Rep.size {E : Env} : ∀ {t : Ty} {cs : List Value} {x : t.den}, Rep E t cs x → cs.length = t.size
  | .int _, _, _, h => by simp only [Rep] at h; simp [h, Ty.size]
  | .bool, _, _, h => by simp only [Rep] at h; simp [h, Ty.size]
  | .str, _, _, h => by simp only [Rep] at h; simp [h, Ty.size]
  | .slice t, _, _, h => by simp only [Rep] at h; obtain ⟨a, cap, vs, rfl, _⟩ := h; simp [Ty.size]
  | .unit, _, _, h => by simp only [Rep] at h; simp [h, Ty.size]
  | .pair a b, _, _, h => by
    simp only [Rep] at h
    obtain ⟨ca, cb, rfl, ha, hb⟩ := h
    simp [Ty.size, Rep.size ha, Rep.size hb]
  | .arr n t, _, _, h => by
    simp only [Rep] at h
    rw [Chunks.length (fun c x hx => Rep.size hx) h.2, h.1, Ty.size]

theorem Rep.one {E : Env} : ∀ {t : Ty} {cs : List Value} {x : t.den}, Rep E t cs x → ∀ c ∈ cs, c.oneCell' = true
  | .int _, _, _, h => by simp only [Rep] at h; simp [h, Value.oneCell']
  | .bool, _, _, h => by simp only [Rep] at h; simp [h, Value.oneCell']
  | .str, _, _, h => by simp only [Rep] at h; simp [h, Value.oneCell']
  | .slice t, _, _, h => by simp only [Rep] at h; obtain ⟨a, cap, vs, rfl, _⟩ := h; simp [Value.oneCell']
  | .unit, _, _, h => by simp only [Rep] at h; simp [h]
  | .pair a b, _, _, h => by
    simp only [Rep] at h
    obtain ⟨ca, cb, rfl, ha, hb⟩ := h
    intro c hc
    rcases List.mem_append.1 hc with hc | hc
    · exact Rep.one ha c hc
    · exact Rep.one hb c hc
  | .arr n t, _, _, h => by
    simp only [Rep] at h
    exact Chunks.all (fun c x hx => Rep.one hx) h.2

structure MemLe (E E' : Env) : Prop where
  has : ∀ b off v, E.has b off v → E'.has b off v
  fz : ∀ b ob, E.g b = .free → E.w.heap[b]? = some ob → E'.g b = .free ∧ E'.w.heap[b]? = some ob

theorem MemLe.refl (E : Env) : MemLe E E := ⟨fun _ _ _ h => h, fun _ _ h h' => ⟨h, h'⟩⟩
theorem MemLe.trans {E E' E'' : Env} (h : MemLe E E') (h' : MemLe E' E'') : MemLe E E'' := ⟨fun b o v x => h'.has b o v (h.has b o v x), fun b ob h1 h2 => let ⟨h3, h4⟩ := h.fz b ob h1 h2; h'.fz b ob h3 h4⟩

theorem RowAt.mono {E E' : Env} (h : MemLe E E') {a : Option Addr} {vs : List Value} (hr : RowAt E a vs) : RowAt E' a vs :=
  fun i v hv => let ⟨b, off, ha, hh⟩ := hr i v hv; ⟨b, off, ha, h.has _ _ _ hh⟩

theorem Rep.mono {E E' : Env} (hm : MemLe E E') : ∀ {t : Ty} {cs : List Value} {x : t.den}, Rep E t cs x → Rep E' t cs x
  | .int _, _, _, h => by simpa only [Rep] using h
  | .bool, _, _, h => by simpa only [Rep] using h
  | .str, _, _, h => by simpa only [Rep] using h
  | .slice t, _, _, h => by
    simp only [Rep] at h ⊢
    obtain ⟨a, cap, vs, e, hl, hs, hr, hc⟩ := h
    exact ⟨a, cap, vs, e, hl, hs, hr.mono hm, hc.mono fun c x hx => Rep.mono hm hx⟩
  | .unit, _, _, h => by simpa only [Rep] using h
  | .pair a b, _, _, h => by
    simp only [Rep] at h ⊢
    obtain ⟨ca, cb, e, ha, hb⟩ := h
    exact ⟨ca, cb, e, Rep.mono hm ha, Rep.mono hm hb⟩
  | .arr n t, _, _, h => by
    simp only [Rep] at h ⊢
    exact ⟨h.1, h.2.mono fun c x hx => Rep.mono hm hx⟩

/-! ### Values -/

def Env.cur (E : Env) (id : Id) (ver : Nat) : Prop := ∃ fr c, E.s id = some (.obj ver fr c)
def Env.bnd (E : Env) (id : Id) (ver : Nat) : Prop := E.s id ≠ none ∧ ∀ v fr c, E.s id = some (.obj v fr c) → ver ≤ v

def OfCells (agg : Bool) (cs : List Value) (v : Value) : Prop := match agg with | true => v = .agg cs.toArray | false => cs = [v]

mutual
def V (E : Env) : AVal → List Value → Prop
  | .undef, _ => False
  | .gone, cs => ∃ v, cs = [v] ∧ v.oneCell' = true
  | .nils, cs => cs = [.slice none 0 0]
  | .nilp, cs => cs = [.pointer none]
  | .nilf, cs => cs = [.nilFunc]
  | .nilm, cs => cs = [.map none]
  | .sb l, cs => ∃ (b cap : Nat) (arr : Array Value) (e : TypeId), cs = [.slice (some ⟨b, 0, none⟩) l.length cap] ∧ l.length ≤ cap ∧ E.g b = .free ∧ E.w.heap[b]? = some (.cells arr e (arr.size, arr.size + 1)) ∧ ∀ (j : Nat) (v : Value), (l.map (Value.int .u8))[j]? = some v → arr[j]? = some v
  | .d t x, cs => Rep E t cs x
  | .pr a b, cs => ∃ ca cb, cs = ca ++ cb ∧ V E a ca ∧ V E b cb
  | .ptr id ver _ n, cs => ∃ a, cs = [.pointer (some a)] ∧ E.bnd id ver ∧ (E.cur id ver → ∃ pl, E.β id = some pl ∧ a = ⟨pl.b, n, none⟩)
  | .rptr t x, cs => ∃ b off vs, cs = [.pointer (some ⟨b, off, none⟩)] ∧ RowAt E (some ⟨b, off, none⟩) vs ∧ Rep E t vs x
  | .sref id ver p c i len, cs => ∃ a cap, cs = [.slice a len cap] ∧ len ≤ cap ∧ (0 < len → a.isSome = true) ∧ E.bnd id ver ∧
      (E.cur id ver → match E.β id with
        | some pl => (0 < len ∨ i = 0 → a = some ⟨pl.b, c, none⟩) ∧ (p = [] → i = 0 → cap = pl.cap)
        | none => a = none ∧ len = 0 ∧ cap = 0)
  | .fn f c, cs => ∃ vs, cs = [.func (.func f) #[] vs.toArray] ∧ VC E c vs
  | .cons _ _, _ => False
  | .nil, _ => False
  | .vec .., _ => False
  | .bx _ _, _ => False
def VC (E : Env) : AVal → List Value → Prop
  | .nil, vs => vs = []
  | .cons a b, vs => ∃ v vs' cs, vs = v :: vs' ∧ V E a cs ∧ OfCells a.agg cs v ∧ VC E b vs'
  | _, _ => False
end

structure EnvLe (E E' : Env) : Prop where
  mem : MemLe E E'
  bnd : ∀ id ver, E.bnd id ver → E'.bnd id ver
  cur : ∀ id ver, E.bnd id ver → E'.cur id ver → E.cur id ver ∧ E'.β id = E.β id

theorem EnvLe.refl (E : Env) : EnvLe E E := ⟨MemLe.refl E, fun _ _ h => h, fun _ _ _ h => ⟨h, rfl⟩⟩
theorem EnvLe.trans {E E' E'' : Env} (h : EnvLe E E') (h' : EnvLe E' E'') : EnvLe E E'' :=
  ⟨h.mem.trans h'.mem, fun id v b => h'.bnd id v (h.bnd id v b), fun id v b c =>
    let ⟨c1, e1⟩ := h'.cur id v (h.bnd id v b) c
    let ⟨c2, e2⟩ := h.cur id v b c1
    ⟨c2, e1.trans e2⟩⟩

mutual
theorem V.mono {E E' : Env} (h : EnvLe E E') : ∀ {a : AVal} {cs : List Value}, V E a cs → V E' a cs
  | .undef, _, hv => by simp only [V] at hv
  | .gone, _, hv => by simpa only [V] using hv
  | .nils, _, hv => by simpa only [V] using hv
  | .nilp, _, hv => by simpa only [V] using hv
  | .nilf, _, hv => by simpa only [V] using hv
  | .nilm, _, hv => by simpa only [V] using hv
  | .sb l, _, hv => by
    simp only [V] at hv ⊢
    obtain ⟨b, cap, arr, e, h1, h2, h3, h4, h5⟩ := hv
    obtain ⟨h6, h7⟩ := h.mem.fz b _ h3 h4
    exact ⟨b, cap, arr, e, h1, h2, h6, h7, h5⟩
  | .d t x, _, hv => by simp only [V] at hv ⊢; exact hv.mono h.mem
  | .pr a b, _, hv => by
    simp only [V] at hv ⊢
    obtain ⟨ca, cb, e, ha, hb⟩ := hv
    exact ⟨ca, cb, e, V.mono h ha, V.mono h hb⟩
  | .ptr id ver p n, _, hv => by
    simp only [V] at hv ⊢
    obtain ⟨a, e, hb, hc⟩ := hv
    refine ⟨a, e, h.bnd _ _ hb, fun c => ?_⟩
    obtain ⟨c1, e1⟩ := h.cur _ _ hb c
    rw [e1]; exact hc c1
  | .rptr t x, _, hv => by
    simp only [V] at hv ⊢
    obtain ⟨b, off, vs, e, hr, hx⟩ := hv
    exact ⟨b, off, vs, e, hr.mono h.mem, hx.mono h.mem⟩
  | .sref id ver p c i len, _, hv => by
    simp only [V] at hv ⊢
    obtain ⟨a, cap, e, hl, hs, hb, hc⟩ := hv
    refine ⟨a, cap, e, hl, hs, h.bnd _ _ hb, fun c => ?_⟩
    obtain ⟨c1, e1⟩ := h.cur _ _ hb c
    rw [e1]; exact hc c1
  | .fn f c, _, hv => by
    simp only [V] at hv ⊢
    obtain ⟨vs, e, hc⟩ := hv
    exact ⟨vs, e, VC.mono h hc⟩
  | .cons _ _, _, hv => by simp only [V] at hv
  | .nil, _, hv => by simp only [V] at hv
  | .vec .., _, hv => by simp only [V] at hv
  | .bx .., _, hv => by simp only [V] at hv
theorem VC.mono {E E' : Env} (h : EnvLe E E') : ∀ {a : AVal} {vs : List Value}, VC E a vs → VC E' a vs
  | .nil, _, hv => by simpa only [VC] using hv
  | .cons a b, _, hv => by
    simp only [VC] at hv ⊢
    obtain ⟨v, vs', cs, e, ha, ho, hb⟩ := hv
    exact ⟨v, vs', cs, e, V.mono h ha, ho, VC.mono h hb⟩
  | .undef, _, hv => by simp only [VC] at hv
  | .gone, _, hv => by simp only [VC] at hv
  | .nils, _, hv => by simp only [VC] at hv
  | .nilp, _, hv => by simp only [VC] at hv
  | .nilf, _, hv => by simp only [VC] at hv
  | .nilm, _, hv => by simp only [VC] at hv
  | .sb _, _, hv => by simp only [VC] at hv
  | .d t x, _, hv => by simp only [VC] at hv
  | .pr a b, _, hv => by simp only [VC] at hv
  | .ptr .., _, hv => by simp only [VC] at hv
  | .rptr .., _, hv => by simp only [VC] at hv
  | .sref .., _, hv => by simp only [VC] at hv
  | .fn .., _, hv => by simp only [VC] at hv
  | .vec .., _, hv => by simp only [VC] at hv
  | .bx .., _, hv => by simp only [VC] at hv
end

theorem V.size {E : Env} : ∀ {a : AVal} {cs : List Value}, V E a cs → cs.length = a.size
  | .undef, _, hv => by simp only [V] at hv
  | .gone, _, hv => by simp only [V] at hv; obtain ⟨v, rfl, _⟩ := hv; rfl
  | .nils, _, hv => by simp only [V] at hv; rw [hv]; rfl
  | .nilp, _, hv => by simp only [V] at hv; rw [hv]; rfl
  | .nilf, _, hv => by simp only [V] at hv; rw [hv]; rfl
  | .nilm, _, hv => by simp only [V] at hv; rw [hv]; rfl
  | .sb _, _, hv => by simp only [V] at hv; obtain ⟨_, _, _, _, rfl, _⟩ := hv; rfl
  | .d t x, _, hv => by simp only [V] at hv; exact hv.size
  | .pr a b, _, hv => by
    simp only [V] at hv
    obtain ⟨ca, cb, rfl, ha, hb⟩ := hv
    simp [AVal.size, V.size ha, V.size hb]
  | .ptr .., _, hv => by simp only [V] at hv; obtain ⟨a, rfl, _⟩ := hv; rfl
  | .rptr .., _, hv => by simp only [V] at hv; obtain ⟨_, _, _, rfl, _⟩ := hv; rfl
  | .sref .., _, hv => by simp only [V] at hv; obtain ⟨_, _, rfl, _⟩ := hv; rfl
  | .fn .., _, hv => by simp only [V] at hv; obtain ⟨_, rfl, _⟩ := hv; rfl
  | .cons _ _, _, hv => by simp only [V] at hv
  | .nil, _, hv => by simp only [V] at hv
  | .vec .., _, hv => by simp only [V] at hv
  | .bx .., _, hv => by simp only [V] at hv

theorem V.one {E : Env} : ∀ {a : AVal} {cs : List Value}, V E a cs → ∀ c ∈ cs, c.oneCell' = true
  | .undef, _, hv => by simp only [V] at hv
  | .gone, _, hv => by simp only [V] at hv; obtain ⟨v, rfl, h⟩ := hv; simp [h]
  | .nils, _, hv => by simp only [V] at hv; rw [hv]; simp [Value.oneCell']
  | .nilp, _, hv => by simp only [V] at hv; rw [hv]; simp [Value.oneCell']
  | .nilf, _, hv => by simp only [V] at hv; rw [hv]; simp [Value.oneCell']
  | .nilm, _, hv => by simp only [V] at hv; rw [hv]; simp [Value.oneCell']
  | .sb _, _, hv => by simp only [V] at hv; obtain ⟨_, _, _, _, rfl, _⟩ := hv; simp [Value.oneCell']
  | .d t x, _, hv => by simp only [V] at hv; exact hv.one
  | .pr a b, _, hv => by
    simp only [V] at hv
    obtain ⟨ca, cb, rfl, ha, hb⟩ := hv
    intro c hc
    rcases List.mem_append.1 hc with hc | hc
    · exact V.one ha c hc
    · exact V.one hb c hc
  | .ptr .., _, hv => by simp only [V] at hv; obtain ⟨a, rfl, _⟩ := hv; simp [Value.oneCell']
  | .rptr .., _, hv => by simp only [V] at hv; obtain ⟨_, _, _, rfl, _⟩ := hv; simp [Value.oneCell']
  | .sref .., _, hv => by simp only [V] at hv; obtain ⟨_, _, rfl, _⟩ := hv; simp [Value.oneCell']
  | .fn .., _, hv => by simp only [V] at hv; obtain ⟨_, rfl, _⟩ := hv; simp [Value.oneCell']
  | .cons _ _, _, hv => by simp only [V] at hv
  | .nil, _, hv => by simp only [V] at hv
  | .vec .., _, hv => by simp only [V] at hv
  | .bx .., _, hv => by simp only [V] at hv

theorem AVal.size_one : ∀ {v : AVal}, v.agg = false → v.size = 1
  | .d (.int _) _, _ | .d .bool _, _ | .d .str _, _ | .d (.slice _) _, _ => rfl
  | .d .unit _, h | .d (.pair _ _) _, h | .d (.arr _ _) _, h => by simp [AVal.agg, Ty.agg] at h
  | .pr _ _, h => by simp [AVal.agg] at h
  | .undef, _ | .gone, _ | .nils, _ | .nilp, _ | .nilf, _ | .nilm, _ | .ptr .., _ | .rptr .., _ | .sref .., _ | .fn .., _ | .cons .., _ | .nil, _ | .vec .., _ | .sb _, _ | .bx .., _ => rfl

/-- What a slot holds. -/
def VS (E : Env) : AVal → Value → Prop
  | .undef, _ => True
  | .cons a b, v => ∃ vs, v = .tuple vs.toArray ∧ VC E (.cons a b) vs
  | .nil, v => v = .tuple #[]
  | a, v => ∃ cs, V E a cs ∧ OfCells a.agg cs v

theorem VS.mono {E E' : Env} (h : EnvLe E E') : ∀ {a : AVal} {v : Value}, VS E a v → VS E' a v := by
  intro a v hv
  cases a <;> first
    | trivial
    | exact hv
    | (obtain ⟨cs, h1, h2⟩ := hv; exact ⟨cs, V.mono h h1, h2⟩)
    | (obtain ⟨vs, e, hc⟩ := hv; exact ⟨vs, e, VC.mono h hc⟩)

theorem VS.undef {E : Env} {v : Value} : VS E .undef v := trivial

theorem VS.of {E : Env} {a : AVal} {cs : List Value} {v : Value} (h : V E a cs) (ho : OfCells a.agg cs v) : VS E a v := by
  cases a <;> first
    | (simp only [V] at h; done)
    | exact ⟨cs, h, ho⟩

theorem VS.celled {E : Env} {a : AVal} {v : Value} (h : VS E a v) (hc : a.celled = true) : ∃ cs, V E a cs ∧ OfCells a.agg cs v := by
  cases a <;> first
    | (simp [AVal.celled] at hc; done)
    | exact h

/-- The one cell of a value that is no struct and no array. -/
theorem VS.single {E : Env} {a : AVal} {v : Value} (h : VS E a v) (hc : a.celled = true) (ha : a.agg = false) : V E a [v] := by
  obtain ⟨cs, hv, ho⟩ := h.celled hc
  rw [ha] at ho
  have : cs = [v] := ho
  rw [← this]; exact hv

theorem OfCells.cells {agg : Bool} {cs : List Value} {v : Value} (h : OfCells agg cs v) (h1 : ∀ c ∈ cs, c.oneCell' = true) : v.cells = cs.toArray := by
  cases agg with
  | true => have : v = .agg cs.toArray := h; rw [this]; rfl
  | false =>
    have e : cs = [v] := h
    have := h1 v (by simp [e])
    rw [e]
    cases v <;> first | rfl | (simp [Value.oneCell'] at this; done)

end Go.Ab

/-
  Outcomes; looking into contents and changing them; objects; what a step may do to memory.
-/
namespace Go.Ab

/-! ### Outcomes -/

section
variable {α β : Type}
theorem eval_ok {a b : α} : (Out.ok a).eval = some b ↔ a = b := by simp [Out.eval]
theorem eval_fail {b : α} : (Out.fail : Out α).eval = some b ↔ False := by simp [Out.eval]
theorem eval_chk {c : Bool} {r : Out α} {b : α} : (Out.chk c r).eval = some b ↔ c = true ∧ r.eval = some b := by cases c <;> simp [Out.eval]
theorem eval_guard {c : Bool} {r : Out α} {b : α} : (Out.guard c r).eval = some b ↔ c = true ∧ r.eval = some b := by cases c <;> simp [Out.guard, Out.eval]
theorem eval_get {x : Option β} {f : β → Out α} {b : α} : (Out.get x f).eval = some b ↔ ∃ y, x = some y ∧ (f y).eval = some b := by
  cases x <;> simp [Out.eval]
theorem eval_opt {x : Option α} {b : α} : (Out.opt x).eval = some b ↔ x = some b := by cases x <;> simp [Out.opt, Out.eval]
theorem eval_bind_eq (o : Out α) (f : α → Out β) : (o.bind f).eval = o.eval.bind fun a => (f a).eval := by
  induction o with
  | ok a => rfl
  | fail => rfl
  | chk c r ih => cases c <;> simp [Out.bind, Out.eval, ih]
  | get x g ih => cases x <;> simp [Out.bind, Out.eval, ih]
  | br c x y ih1 ih2 => cases c <;> simp [Out.bind, Out.eval, ih1, ih2]
theorem eval_bind {o : Out α} {f : α → Out β} {b : β} : (o.bind f).eval = some b ↔ ∃ a, o.eval = some a ∧ (f a).eval = some b := by
  rw [eval_bind_eq]; simp [Option.bind_eq_some_iff]

theorem run_eq {R : Type} (o : Out α) (k : α → Option R) : o.run k = o.eval.bind k := by
  induction o with
  | ok a => rfl
  | fail => rfl
  | chk c r ih => cases c <;> simp [Out.run, Out.eval, sel, ih]
  | get x g ih => cases x <;> simp [Out.run, Out.eval, obind, ih]
  | br c x y ih1 ih2 => cases c <;> simp [Out.run, Out.eval, sel, ih1, ih2]
theorem run_some {R : Type} {o : Out α} {k : α → Option R} {r : R} : o.run k = some r ↔ ∃ a, o.eval = some a ∧ k a = some r := by
  rw [run_eq]; simp [Option.bind_eq_some_iff]
end

theorem castTy_some {t t' : Ty} {x : t.den} {y : t'.den} (h : castTy t t' x = some y) : ∃ e : t = t', e ▸ x = y := by
  unfold castTy at h
  split at h
  · rename_i e; exact ⟨e, by simpa using h⟩
  · cases h

/-! ### Contents -/

def VO (E : Env) : AVal → List Value → Prop
  | .vec _ t l, cs => Chunks (Rep E t) cs l
  | a, cs => V E a cs

theorem VO.of {E : Env} {a : AVal} {cs : List Value} (h : V E a cs) : VO E a cs := by
  cases a <;> first | exact h | (simp only [V] at h)

def AVal.isVec : AVal → Bool | .vec .. => true | _ => false

theorem VO.to {E : Env} {a : AVal} {cs : List Value} (h : VO E a cs) (hn : a.isVec = false) : V E a cs := by
  cases a <;> first | exact h | (simp [AVal.isVec] at hn)

theorem VO.mono {E E' : Env} (h : EnvLe E E') {a : AVal} {cs : List Value} (hv : VO E a cs) : VO E' a cs := by
  cases a <;> first | exact V.mono h hv | exact Chunks.mono (fun _ _ hx => hx.mono h.mem) hv

theorem nth_eq {t : Ty} {l : List t.den} {i : Nat} (h : i < l.length) : nth t l i = l[i] := by
  unfold nth; simp [h]

theorem part_mid {α : Type} (cs : List α) (n m k j : Nat) (h : k + j ≤ m) : (((cs.drop n).take m).drop k).take j = (cs.drop (n + k)).take j := by
  rw [List.drop_take, List.take_take, List.drop_drop]
  congr 1
  omega

theorem row_part {E : Env} {t : Ty} {cs : List Value} {l : List t.den} (h : Chunks (Rep E t) cs l) {i : Nat} (hi : i < l.length) :
    Rep E t ((cs.drop (i * t.size)).take t.size) l[i] ∧ i * t.size + t.size ≤ cs.length := by
  have hz : ∀ c x, Rep E t c x → c.length = t.size := fun c x hx => hx.size
  refine ⟨h.get hz i hi, ?_⟩
  rw [h.length hz, ← Nat.succ_mul]
  exact Nat.mul_le_mul_right _ hi

/-- The part of a content that a path leads to. -/
theorem loc_sound {E : Env} : ∀ (p : List Stp) (c : AVal) (cs : List Value) (n : Nat) (v : AVal), VO E c cs → (loc c p).eval = some (n, v) →
    (n = 0 ∧ v = c) ∨ (V E v ((cs.drop n).take v.size) ∧ n + v.size ≤ cs.length)
  | [], c, cs, n, v, hc, h => by
    left
    simp only [loc, eval_ok, Prod.mk.injEq] at h
    exact ⟨h.1.symm, h.2.symm⟩
  | st :: p, c, cs, n, v, hc, h => by
    by_cases hst : st = .arr
    · subst hst
      have h' : (loc c p).eval = some (n, v) := by cases c <;> simpa only [loc] using h
      exact loc_sound p c cs n v hc h'
    right
    have whole : ∀ (c' : AVal) (cs' : List Value) (n' : Nat) (v' : AVal), V E c' cs' → (loc c' p).eval = some (n', v') → V E v' ((cs'.drop n').take v'.size) ∧ n' + v'.size ≤ cs'.length := by
      intro c' cs' n' v' hc' hl
      rcases loc_sound p c' cs' n' v' (VO.of hc') hl with ⟨rfl, rfl⟩ | hh
      · have := hc'.size
        rw [List.drop_zero, List.take_of_length_le (by omega)]
        exact ⟨hc', by omega⟩
      · exact hh
    have second : ∀ (a b : AVal) (ca cb : List Value), cs = ca ++ cb → ca.length = a.size → V E b cb → ((loc b p).bind fun (n, v) => Out.ok (a.size + n, v)).eval = some (n, v) →
        V E v ((cs.drop n).take v.size) ∧ n + v.size ≤ cs.length := by
      intro a b ca cb e hl hb hh
      obtain ⟨⟨n', v'⟩, h1, h2⟩ := eval_bind.1 hh
      simp only [eval_ok, Prod.mk.injEq] at h2
      obtain ⟨rfl, rfl⟩ := h2
      obtain ⟨h3, h4⟩ := whole b cb n' v' hb h1
      subst e
      rw [← hl, List.drop_append, List.drop_of_length_le (by omega), List.nil_append, Nat.add_sub_cancel_left]
      exact ⟨h3, by simp only [List.length_append]; omega⟩
    have elem : ∀ (t : Ty) (l : List t.den) (i : Nat), Chunks (Rep E t) cs l → (Out.chk (decide (i < l.length)) ((loc (.d t (nth t l i)) p).bind fun (n, v) => Out.ok (i * t.size + n, v))).eval = some (n, v) →
        V E v ((cs.drop n).take v.size) ∧ n + v.size ≤ cs.length := by
      intro t l i hch hh
      obtain ⟨hi, hh⟩ := eval_chk.1 hh
      have hi : i < l.length := by simpa using hi
      obtain ⟨⟨n', v'⟩, h1, h2⟩ := eval_bind.1 hh
      simp only [eval_ok, Prod.mk.injEq] at h2
      obtain ⟨rfl, rfl⟩ := h2
      obtain ⟨hp, hle⟩ := row_part hch hi
      rw [nth_eq hi] at h1
      have hv : V E (.d t l[i]) ((cs.drop (i * t.size)).take t.size) := by simpa only [V] using hp
      obtain ⟨h3, h4⟩ := whole _ _ n' v' hv h1
      have hlen : ((cs.drop (i * t.size)).take t.size).length = t.size := hp.size
      rw [part_mid _ _ _ _ _ (by omega)] at h3
      exact ⟨h3, by omega⟩
    cases c with
    | pr a b =>
      simp only [VO, V] at hc
      obtain ⟨ca, cb, e, ha, hb⟩ := hc
      cases st with
      | arr => exact absurd rfl hst
      | fst =>
        simp only [loc] at h
        obtain ⟨h3, h4⟩ := whole a ca n v ha h
        subst e
        refine ⟨?_, by simp only [List.length_append]; omega⟩
        rw [List.drop_append, List.take_append, List.length_drop, Nat.sub_eq_zero_of_le (by omega : v.size ≤ ca.length - n), List.take_zero, List.append_nil]
        exact h3
      | snd => simp only [loc] at h; exact second a b ca cb e ha.size hb h
      | idx i => simp only [loc, eval_fail] at h
    | d t x =>
      simp only [VO, V] at hc
      cases t with
      | pair ta tb =>
        simp only [Rep] at hc
        obtain ⟨ca, cb, e, ha, hb⟩ := hc
        cases st with
        | arr => exact absurd rfl hst
        | fst =>
          simp only [loc] at h
          obtain ⟨h3, h4⟩ := whole (.d ta x.1) ca n v (by simpa only [V] using ha) h
          subst e
          refine ⟨?_, by simp only [List.length_append]; omega⟩
          rw [List.drop_append, List.take_append, List.length_drop, Nat.sub_eq_zero_of_le (by omega : v.size ≤ ca.length - n), List.take_zero, List.append_nil]
          exact h3
        | snd => simp only [loc] at h; exact second (.d ta x.1) (.d tb x.2) ca cb e ha.size (by simpa only [V] using hb) h
        | idx i => simp only [loc, eval_fail] at h
      | arr m t =>
        simp only [Rep] at hc
        cases st with
        | arr => exact absurd rfl hst
        | idx i => simp only [loc] at h; exact elem t x i hc.2 h
        | fst => simp only [loc, eval_fail] at h
        | snd => simp only [loc, eval_fail] at h
      | _ => cases st <;> first | exact absurd rfl hst | (simp only [loc, eval_fail] at h)
    | vec e t l =>
      simp only [VO] at hc
      cases st with
      | arr => exact absurd rfl hst
      | idx i => simp only [loc] at h; exact elem t l i hc h
      | fst => simp only [loc, eval_fail] at h
      | snd => simp only [loc, eval_fail] at h
    | _ => cases st <;> first | exact absurd rfl hst | (simp only [loc, eval_fail] at h)

theorem V_mkPr {E : Env} {a b : AVal} {ca cb : List Value} (ha : V E a ca) (hb : V E b cb) : V E (mkPr a b) (ca ++ cb) := by
  have gen : V E (.pr a b) (ca ++ cb) := by simp only [V]; exact ⟨ca, cb, rfl, ha, hb⟩
  unfold mkPr
  split
  · simp only [V] at ha hb ⊢
    simp only [Rep]
    exact ⟨ca, cb, rfl, ha, hb⟩
  · exact gen

theorem mkPr_notVec (a b : AVal) : (mkPr a b).isVec = false := by unfold mkPr; split <;> rfl

def splice (cs : List Value) (n : Nat) (vs : List Value) : List Value := cs.take n ++ vs ++ cs.drop (n + vs.length)

theorem splice_all {cs vs : List Value} (h : cs.length = vs.length) : splice cs 0 vs = vs := by
  simp [splice, List.drop_of_length_le (by omega : cs.length ≤ vs.length)]

theorem splice_left {ca cb vs : List Value} {n : Nat} (h : n + vs.length ≤ ca.length) : splice (ca ++ cb) n vs = splice ca n vs ++ cb := by
  unfold splice
  rw [List.take_append, List.drop_append, Nat.sub_eq_zero_of_le (by omega : n ≤ ca.length), List.take_zero, List.append_nil, Nat.sub_eq_zero_of_le h, List.drop_zero]
  simp only [List.append_assoc]

theorem splice_right {ca cb vs : List Value} {n : Nat} : splice (ca ++ cb) (ca.length + n) vs = ca ++ splice cb n vs := by
  unfold splice
  rw [List.take_append, List.take_of_length_le (by omega), Nat.add_sub_cancel_left, List.drop_append, List.drop_of_length_le (by omega), List.nil_append]
  simp only [List.append_assoc]
  congr 4
  omega

theorem splice_mid {cs vs : List Value} {i z n : Nat} (hz : i + z ≤ cs.length) (h : n + vs.length ≤ z) :
    splice cs (i + n) vs = cs.take i ++ splice ((cs.drop i).take z) n vs ++ cs.drop (i + z) := by
  have e : cs = cs.take i ++ ((cs.drop i).take z ++ cs.drop (i + z)) := by
    rw [← List.drop_drop, List.take_append_drop, List.take_append_drop]
  have hl : (cs.take i).length = i := by simp; omega
  have hm : ((cs.drop i).take z).length = z := by simp; omega
  conv => lhs; rw [e, show i + n = (cs.take i).length + n by rw [hl]]
  rw [splice_right, splice_left (by omega)]
  simp only [List.append_assoc]

theorem splice_length {cs vs : List Value} {n : Nat} (h : n + vs.length ≤ cs.length) : (splice cs n vs).length = cs.length := by
  simp [splice]; omega

def SameShape : AVal → AVal → Prop
  | .vec e t l, .vec e' t' l' => e' = e ∧ t' = t ∧ l'.length = l.length
  | .vec .., _ => False
  | _, .vec .. => False
  | _, _ => True

theorem SameShape.notVec {a b : AVal} (h : SameShape a b) (ha : a.isVec = false) : b.isVec = false := by
  cases b <;> first
    | rfl
    | (cases a <;> first | (simp [AVal.isVec] at ha; done) | exact h.elim)

theorem SameShape.of {a b : AVal} (ha : a.isVec = false) (hb : b.isVec = false) : SameShape a b := by
  cases a <;> first
    | (simp [AVal.isVec] at ha; done)
    | (cases b <;> first | trivial | (simp [AVal.isVec] at hb; done))

theorem V.notVec {E : Env} {a : AVal} {cs : List Value} (h : V E a cs) : a.isVec = false := by
  cases a <;> first | rfl | (simp only [V] at h)

/-- A content with a part changed. -/
theorem upd_sound {E : Env} : ∀ (p : List Stp) (c : AVal) (cs : List Value) (n : Nat) (o v c' : AVal) (vs : List Value), VO E c cs → (loc c p).eval = some (n, o) → V E v vs →
    (upd c p v).eval = some c' → n + vs.length ≤ cs.length ∧ VO E c' (splice cs n vs) ∧
      SameShape c c'
  | [], c, cs, n, o, v, c', vs, hc, hl, hv, h => by
    simp only [loc, eval_ok, Prod.mk.injEq] at hl
    obtain ⟨rfl, rfl⟩ := hl
    have main : ∀ (hnv : c.isVec = false), (Out.guard (v.celled && (c.size == v.size)) (.ok v)).eval = some c' → 0 + vs.length ≤ cs.length ∧ VO E c' (splice cs 0 vs) ∧
      SameShape c c' := by
      intro hnv hg
      obtain ⟨h1, h2⟩ := eval_guard.1 hg
      obtain rfl := eval_ok.1 h2
      simp only [Bool.and_eq_true, beq_iff_eq] at h1
      have e1 := (hc.to hnv).size
      have e2 := hv.size
      refine ⟨by omega, ?_, ?_⟩
      · rw [splice_all (by omega)]; exact VO.of hv
      · exact SameShape.of hnv hv.notVec
    cases c with
    | vec e t l => simp only [upd, eval_fail] at h
    | _ => exact main rfl (by simpa only [upd] using h)
  | st :: p, c, cs, n, o, v, c', vs, hc, hl, hv, h => by
    by_cases hst : st = .arr
    · subst hst
      have hl' : (loc c p).eval = some (n, o) := by cases c <;> simpa only [loc] using hl
      have h' : (upd c p v).eval = some c' := by cases c <;> simpa only [upd] using h
      exact upd_sound p c cs n o v c' vs hc hl' hv h'
    have left : ∀ (a b : AVal) (ca cb : List Value), cs = ca ++ cb → V E a ca → V E b cb → (loc a p).eval = some (n, o) → ((upd a p v).bind fun a' => Out.ok (mkPr a' b)).eval = some c' →
        n + vs.length ≤ cs.length ∧ VO E c' (splice cs n vs) ∧ c'.isVec = false := by
      intro a b ca cb e ha hb hl hh
      obtain ⟨a', h1, h2⟩ := eval_bind.1 hh
      obtain rfl := eval_ok.1 h2
      obtain ⟨h3, h4, h5⟩ := upd_sound p a ca n o v a' vs (VO.of ha) hl hv h1
      subst e
      refine ⟨by simp only [List.length_append]; omega, ?_, mkPr_notVec _ _⟩
      rw [splice_left h3]
      have hav : a'.isVec = false := h5.notVec ha.notVec
      exact VO.of (V_mkPr (h4.to hav) hb)
    have right : ∀ (a b : AVal) (ca cb : List Value), cs = ca ++ cb → ca.length = a.size → V E a ca → V E b cb → ((loc b p).bind fun (n, v) => Out.ok (a.size + n, v)).eval = some (n, o) →
        ((upd b p v).bind fun b' => Out.ok (mkPr a b')).eval = some c' → n + vs.length ≤ cs.length ∧ VO E c' (splice cs n vs) ∧ c'.isVec = false := by
      intro a b ca cb e hal ha hb hl hh
      obtain ⟨⟨n', v'⟩, h1, h2⟩ := eval_bind.1 hl
      simp only [eval_ok, Prod.mk.injEq] at h2
      obtain ⟨rfl, rfl⟩ := h2
      obtain ⟨b', h3, h4⟩ := eval_bind.1 hh
      obtain rfl := eval_ok.1 h4
      obtain ⟨h5, h6, h7⟩ := upd_sound p b cb n' v' v b' vs (VO.of hb) h1 hv h3
      subst e
      refine ⟨by simp only [List.length_append]; omega, ?_, mkPr_notVec _ _⟩
      rw [← hal, splice_right]
      have hav : b'.isVec = false := h7.notVec hb.notVec
      exact VO.of (V_mkPr ha (h6.to hav))
    have elem : ∀ (t : Ty) (l : List t.den) (i : Nat) (mk : List t.den → AVal), Chunks (Rep E t) cs l → (Out.chk (decide (i < l.length)) ((loc (.d t (nth t l i)) p).bind fun (n, v) => Out.ok (i * t.size + n, v))).eval = some (n, o) →
        (Out.chk (decide (i < l.length)) ((upd (.d t (nth t l i)) p v).bind fun
          | .d t' y => (Out.opt (castTy t' t y)).bind fun y => .ok (mk (l.set i y))
          | _ => .fail)).eval = some c' →
        n + vs.length ≤ cs.length ∧ ∃ l', c' = mk l' ∧ l'.length = l.length ∧ Chunks (Rep E t) (splice cs n vs) l' := by
      intro t l i mk hch hl hh
      obtain ⟨hi, hl⟩ := eval_chk.1 hl
      have hi : i < l.length := by simpa using hi
      obtain ⟨⟨n', v'⟩, h1, h2⟩ := eval_bind.1 hl
      simp only [eval_ok, Prod.mk.injEq] at h2
      obtain ⟨rfl, rfl⟩ := h2
      obtain ⟨_, hh⟩ := eval_chk.1 hh
      obtain ⟨w, h3, h4⟩ := eval_bind.1 hh
      obtain ⟨hp, hle⟩ := row_part hch hi
      rw [nth_eq hi] at h1 h3
      have hvp : V E (.d t l[i]) ((cs.drop (i * t.size)).take t.size) := by simpa only [V] using hp
      have hlen : ((cs.drop (i * t.size)).take t.size).length = t.size := hp.size
      obtain ⟨h5, h6, h7⟩ := upd_sound p _ _ n' v' v w vs (VO.of hvp) h1 hv h3
      cases w with
      | d t' y =>
        simp only at h4
        obtain ⟨y', h8, h9⟩ := eval_bind.1 h4
        obtain ⟨rfl, h8⟩ := castTy_some (eval_opt.1 h8)
        simp only at h8
        subst h8
        obtain rfl := eval_ok.1 h9
        refine ⟨by omega, _, rfl, by simp, ?_⟩
        have hy : Rep E t' (splice ((cs.drop (i * t'.size)).take t'.size) n' vs) y := by simpa only [VO, V] using h6
        have := Chunks.set (fun c x hx => Rep.size hx) hch i hi hy
        rw [splice_mid (by omega : i * t'.size + t'.size ≤ cs.length) (by omega)]
        rwa [hy.size] at this
      | _ => simp only [eval_fail] at h4
    cases c with
    | pr a b =>
      simp only [VO, V] at hc
      obtain ⟨ca, cb, e, ha, hb⟩ := hc
      cases st with
      | arr => exact absurd rfl hst
      | fst =>
        simp only [loc] at hl; simp only [upd] at h
        obtain ⟨r1, r2, r3⟩ := left a b ca cb e ha hb hl h
        exact ⟨r1, r2, SameShape.of rfl r3⟩
      | snd =>
        simp only [loc] at hl; simp only [upd] at h
        obtain ⟨r1, r2, r3⟩ := right a b ca cb e ha.size ha hb hl h
        exact ⟨r1, r2, SameShape.of rfl r3⟩
      | idx i => simp only [loc, eval_fail] at hl
    | d t x =>
      simp only [VO, V] at hc
      cases t with
      | pair ta tb =>
        simp only [Rep] at hc
        obtain ⟨ca, cb, e, ha, hb⟩ := hc
        have ha' : V E (.d ta x.1) ca := by simpa only [V] using ha
        have hb' : V E (.d tb x.2) cb := by simpa only [V] using hb
        cases st with
        | arr => exact absurd rfl hst
        | fst =>
          simp only [loc] at hl; simp only [upd] at h
          obtain ⟨r1, r2, r3⟩ := left _ _ ca cb e ha' hb' hl h
          exact ⟨r1, r2, SameShape.of rfl r3⟩
        | snd =>
          simp only [loc] at hl; simp only [upd] at h
          obtain ⟨r1, r2, r3⟩ := right (.d ta x.1) (.d tb x.2) ca cb e ha.size ha' hb' hl h
          exact ⟨r1, r2, SameShape.of rfl r3⟩
        | idx i => simp only [loc, eval_fail] at hl
      | arr m t =>
        simp only [Rep] at hc
        cases st with
        | arr => exact absurd rfl hst
        | idx i =>
          simp only [loc] at hl; simp only [upd] at h
          obtain ⟨r1, l', e, r2, r3⟩ := elem t x i (fun l => .d (.arr m t) l) hc.2 hl h
          subst e
          refine ⟨r1, ?_, trivial⟩
          simp only [VO, V, Rep]
          exact ⟨by rw [r2]; exact hc.1, r3⟩
        | fst => simp only [loc, eval_fail] at hl
        | snd => simp only [loc, eval_fail] at hl
      | _ => cases st <;> first | exact absurd rfl hst | (simp only [loc, eval_fail] at hl)
    | vec e t l =>
      simp only [VO] at hc
      cases st with
      | arr => exact absurd rfl hst
      | idx i =>
        simp only [loc] at hl; simp only [upd] at h
        obtain ⟨r1, l', e', r2, r3⟩ := elem t l i (fun l => .vec e t l) hc hl h
        subst e'
        exact ⟨r1, by simpa only [VO] using r3, rfl, rfl, r2⟩
      | fst => simp only [loc, eval_fail] at hl
      | snd => simp only [loc, eval_fail] at hl
    | _ => cases st <;> first | exact absurd rfl hst | (simp only [loc, eval_fail] at hl)

end Go.Ab
