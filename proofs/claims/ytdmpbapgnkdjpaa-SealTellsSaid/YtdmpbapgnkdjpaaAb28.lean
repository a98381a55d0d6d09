/-
  Entries out of specifications; names for what is computed.
-/
import Derived.Test.YtdmpbapgnkdjpaaAb27
namespace Go.Ab

/-! ### Numbers -/

def icv (k : IntKind) (n : Int) : Int := k.wrap n
def iadd (k : IntKind) (x y : Int) : Int := k.wrap (x + y)
def isub (k : IntKind) (x y : Int) : Int := k.wrap (x - y)
def imul (k : IntKind) (x y : Int) : Int := k.wrap (x * y)
def iquo (k : IntKind) (x y : Int) : Int := k.wrap (x.tdiv y)
def irem (x y : Int) : Int := x.tmod y
def ishl (k : IntKind) (x y : Int) : Int := k.wrap (x * 2 ^ (min y.toNat k.bits))
def ishr (k : IntKind) (x y : Int) : Int := x.fdiv (2 ^ (min y.toNat k.bits))
def ineg (k : IntKind) (x : Int) : Int := k.wrap (0 - x)
def inot (k : IntKind) (x : Int) : Int := bitop .xor k (if k.signed then -1 else k.max) x
def ieq (x y : Int) : Bool := x == y
def ine (x y : Int) : Bool := x != y
def ilt (x y : Int) : Bool := decide (x < y)
def ile (x y : Int) : Bool := decide (x ≤ y)
def igt (x y : Int) : Bool := decide (x > y)
def ige (x y : Int) : Bool := decide (x ≥ y)
def seq (x y : ByteArray) : Bool := x.toList == y.toList
def sne (x y : ByteArray) : Bool := !(x.toList == y.toList)
def slt (x y : ByteArray) : Bool := Op.bytesLess x.toList y.toList
def sge (x y : ByteArray) : Bool := !(Op.bytesLess x.toList y.toList)
def sidx (a : ByteArray) (i : Int) : Int := ((a.data.toList.getD i.toNat 0).toNat : Int)
def slen (a : ByteArray) : Int := (a.size : Int)
def llen {α : Type} (l : List α) : Int := (l.length : Int)
/-- An index within n elements. -/
def inb (i n : Int) : Bool := decide (0 ≤ i ∧ i < n)
/-- A bound within n elements. -/
def inc (i n : Int) : Bool := decide (0 ≤ i ∧ i ≤ n)
def nonneg (y : Int) : Bool := decide (0 ≤ y)
def nonzero (y : Int) : Bool := !(decide (y = 0))

/-! ### Entries -/

open Classical in
noncomputable def LEntry.of {D X : Type} (st : D → AS) (Pre : D → Prop) (F : D → X) (out : X → Out (Exit × AS)) : LEntry :=
  { X, run := fun s => if h : ∃ d, st d = s ∧ Pre d then some (F h.choose) else none, out }

open Classical in
theorem LEntry.of_run {D X : Type} {st : D → AS} {Pre : D → Prop} {F : D → X} {out : X → Out (Exit × AS)} (hinj : ∀ d d', st d = st d' → d = d') {d : D} (h : Pre d) : (LEntry.of st Pre F out).run (st d) = some (F d) := by
  have hex : ∃ d', st d' = st d ∧ Pre d' := ⟨d, rfl, h⟩
  show (if h : ∃ d', st d' = st d ∧ Pre d' then some (F h.choose) else none) = _
  rw [dif_pos hex, hinj _ _ hex.choose_spec.1]

open Classical in
theorem LDo.of {P : Program} {Γ : Gam} {an : Ann} {N : Nat} {fn : Func} {i : Nat} {D X : Type} {st : D → AS} {Pre : D → Prop} {F : D → X} {out : X → Out (Exit × AS)}
    (hle : an.sums (firstRegion (fnLoop fn i)) = some (LEntry.of st Pre F out)) (h : ∀ d, Pre d → ∃ n, lrun P Γ an N fn i n (st d) (fun e s => some (e, s)) = (out (F d)).eval) : LDo P Γ an N (fnLoop fn i) := by
  intro le hle' s x hx
  rw [hle] at hle'
  simp only [Option.some.injEq] at hle'
  subst hle'
  change (if h : ∃ d', st d' = s ∧ Pre d' then some (F h.choose) else none) = some x at hx
  split at hx
  · rename_i hex
    obtain rfl := Option.some.inj hx
    obtain ⟨h1, h2⟩ := hex.choose_spec
    obtain ⟨n, hn⟩ := h _ h2
    refine ⟨n, ?_⟩
    show lrun P Γ an N fn i n s _ = _
    rw [h1] at hn
    exact hn
  · cases hx

theorem lrun_succ (P : Program) (Γ : Gam) (an : Ann) (N : Nat) (fn : Func) (i : Nat) {R : Type} (n : Nat) (s : AS) (k : Exit → AS → Option R) :
    lrun P Γ an N fn i (n + 1) s k = lround P Γ an N fn i s (fun s1 => lrun P Γ an N fn i n s1 k) k := rfl

/-- A loop whose rounds lower a measure. -/
theorem lrun_of {P : Program} {Γ : Gam} {an : Ann} {N : Nat} {fn : Func} {i : Nat} {D X : Type} {st : D → AS} {Pre : D → Prop} {F : D → X} {out : X → Out (Exit × AS)} (μ : D → Nat)
    (h : ∀ d, Pre d → (∃ d', Pre d' ∧ μ d' < μ d ∧ F d' = F d ∧ ∀ {R : Type} (kn : AS → Option R) (kx : Exit → AS → Option R), lround P Γ an N fn i (st d) kn kx = kn (st d')) ∨
      (∃ r, (out (F d)).eval = some r ∧ ∀ {R : Type} (kn : AS → Option R) (kx : Exit → AS → Option R), lround P Γ an N fn i (st d) kn kx = kx r.1 r.2)) :
    ∀ d, Pre d → ∃ n, lrun P Γ an N fn i n (st d) (fun e s => some (e, s)) = (out (F d)).eval := by
  have key : ∀ m d, μ d = m → Pre d → ∃ n, lrun P Γ an N fn i n (st d) (fun e s => some (e, s)) = (out (F d)).eval := by
    intro m
    induction m using Nat.strongRecOn with
    | _ m ih =>
      intro d hm hp
      rcases h d hp with ⟨d', hp', hlt, hF, hr⟩ | ⟨r, hr, hx⟩
      · obtain ⟨n, hn⟩ := ih (μ d') (by omega) d' rfl hp'
        exact ⟨n + 1, by rw [lrun_succ, hr, hn, hF]⟩
      · exact ⟨1, by rw [lrun_succ, hx, hr]⟩
  exact fun d hp => key _ d rfl hp

/-- A loop with one exit. -/
theorem lrun_one {P : Program} {Γ : Gam} {an : Ann} {N : Nat} {fn : Func} {i : Nat} {D X : Type} {st : D → AS} {Pre : D → Prop} {F : D → X} {ex : X → Exit × AS} (μ : D → Nat)
    (h : ∀ d, Pre d → (∃ d', Pre d' ∧ μ d' < μ d ∧ F d' = F d ∧ ∀ {R : Type} (kn : AS → Option R) (kx : Exit → AS → Option R), lround P Γ an N fn i (st d) kn kx = kn (st d')) ∨
      (∀ {R : Type} (kn : AS → Option R) (kx : Exit → AS → Option R), lround P Γ an N fn i (st d) kn kx = kx (ex (F d)).1 (ex (F d)).2)) :
    ∀ d, Pre d → ∃ n, lrun P Γ an N fn i n (st d) (fun e s => some (e, s)) = (Out.ok (ex (F d))).eval :=
  lrun_of (out := fun x => .ok (ex x)) μ fun d hp => (h d hp).imp id fun h => ⟨_, rfl, h⟩

open Classical in
noncomputable def Entry.of {D X : Type} (params : List (Option Ty)) (st : D → List AVal × List Ent) (Pre : D → Prop) (F : D → X) (out : X → GRes) : Entry :=
  { params, X, run := fun args olds => if h : ∃ d, st d = (args, olds) ∧ Pre d then some (F h.choose) else none, out }

open Classical in
theorem Entry.of_run {D X : Type} {params : List (Option Ty)} {st : D → List AVal × List Ent} {Pre : D → Prop} {F : D → X} {out : X → GRes} (hinj : ∀ d d', st d = st d' → d = d') {d : D} (h : Pre d) :
    (Entry.of params st Pre F out).run (st d).1 (st d).2 = some (F d) := by
  have hex : ∃ d', st d' = ((st d).1, (st d).2) ∧ Pre d' := ⟨d, rfl, h⟩
  show (if h : ∃ d', st d' = ((st d).1, (st d).2) ∧ Pre d' then some (F h.choose) else none) = _
  rw [dif_pos hex, hinj _ _ hex.choose_spec.1]

open Classical in
theorem Does.of {P : Program} {Γ : Gam} (hm : P.follows .mixedOrders = true) (hΓ : Sound P Γ) {f : FuncId} {fn : Func} (hf : P.funcs[f]? = some fn) (hb : fn.body.isSome = true) (hname : (fn.name == "runtime.NumGoroutine") = false) {an : Ann} {N : Nat}
    (hL : ∀ c, fn.body = some c → LOk P Γ an N (loopsOf c)) {D X : Type} {params : List (Option Ty)} {st : D → List AVal × List Ent} {Pre : D → Prop} {F : D → X} {out : X → GRes}
    (h : ∀ d, Pre d → arun P Γ an N fn (st d).1 (st d).2 some = some (out (F d))) : Does P f (Entry.of params st Pre F out) := by
  refine Does.of_run hm hΓ hf hb hname hL fun args olds x hx => ?_
  change (if h : ∃ d', st d' = (args, olds) ∧ Pre d' then some (F h.choose) else none) = some x at hx
  split at hx
  · rename_i hex
    obtain rfl := Option.some.inj hx
    obtain ⟨h1, h2⟩ := hex.choose_spec
    have := h _ h2
    rw [h1] at this
    exact this
  · cases hx

def LAt (P : Program) (Γ : Gam) (an : Ann) (N : Nat) (fn : Func) : Nat → Nat → Prop
  | 0, _ => True
  | n + 1, i => LDo P Γ an N (fnLoop fn i) ∧ LAt P Γ an N fn n (i + 1)

theorem LAt.get {P : Program} {Γ : Gam} {an : Ann} {N : Nat} {fn : Func} : ∀ {n i : Nat}, LAt P Γ an N fn n i → ∀ j, j < n → LDo P Γ an N (fnLoop fn (i + j))
  | 0, _, _, j, hj => by omega
  | n + 1, i, h, 0, _ => h.1
  | n + 1, i, h, j + 1, hj => by
    have := LAt.get h.2 j (by omega)
    rwa [show i + 1 + j = i + (j + 1) by omega] at this

theorem LOk.of_all {P : Program} {Γ : Gam} {an : Ann} {N : Nat} : ∀ (l : List Code), (∀ j, j < l.length → LDo P Γ an N (l.getD j .skip)) → LOk P Γ an N l
  | [], _ => trivial
  | b :: l, h => ⟨h 0 (by simp), LOk.of_all l fun j hj => by have := h (j + 1) (by simpa using hj); simpa using this⟩

theorem LOk.fn {P : Program} {Γ : Gam} {an : Ann} {N : Nat} {fn : Func} (n : Nat) (hn : (match fn.body with | some c => (loopsOf c).length | none => 0) = n) (h : LAt P Γ an N fn n 0) : ∀ c, fn.body = some c → LOk P Γ an N (loopsOf c) := by
  intro c hc
  refine LOk.of_all _ fun j hj => ?_
  rw [hc] at hn
  simp only at hn
  have := h.get j (by omega)
  unfold fnLoop at this
  rw [hc] at this
  simpa using this

theorem LDo.none {P : Program} {Γ : Gam} {an : Ann} {N : Nat} {fn : Func} {i : Nat} (h : an.sums (firstRegion (fnLoop fn i)) = none) : LDo P Γ an N (fnLoop fn i) := fun le hle => by
  rw [h] at hle; cases hle

def gnil : Gam := fun _ _ => none
theorem Sound.nil (P : Program) : Sound P gnil := fun _ _ _ h => by cases h
def gcons (f : FuncId) (p : List AVal → Bool) (en : Entry) (Γ : Gam) : Gam := fun g vs => match Nat.beq g f with | true => (match p vs with | true => some en | false => Γ g vs) | false => Γ g vs
theorem Sound.cons {P : Program} {f : FuncId} {p : List AVal → Bool} {en : Entry} {Γ : Gam} (h : Does P f en) (hΓ : Sound P Γ) : Sound P (gcons f p en Γ) := fun g vs e hg => by
  unfold gcons at hg
  split at hg
  · rename_i he
    have : g = f := Nat.eq_of_beq_eq_true he
    split at hg
    · simp only [Option.some.injEq] at hg
      subst hg this
      exact h
    · exact hΓ g vs e hg
  · exact hΓ g vs e hg

/-! ### Getters -/

def prA : AVal → AVal | .pr a _ => a | v => v
def prB : AVal → AVal | .pr _ b => b | v => v
def capN (n : Nat) : AVal → AVal | .fn _ c => c.list.getD n .undef | v => v.list.getD n .undef
def entC : Option Ent → AVal | some (.obj _ _ c) => c | _ => .undef
def entD : Ent → AVal | .obj _ _ c => c | .dead => .undef
def srefLen : AVal → Nat | .sref _ _ _ _ _ n => n | _ => 0
theorem d_inj {t : Ty} {x y : t.den} (h : AVal.d t x = AVal.d t y) : x = y := by
  injection h with _ h
theorem rptr_inj {t : Ty} {x y : t.den} (h : AVal.rptr t x = AVal.rptr t y) : x = y := by
  injection h with _ h
theorem vec_inj {e : TypeId} {t : Ty} {x y : List t.den} (h : AVal.vec e t x = AVal.vec e t y) : x = y := by
  injection h with _ _ h

/-- By the shape of the first value. -/
def anyArgs : List AVal → Bool := fun _ => true
def nilsFirst : List AVal → Bool | .nils :: _ => true | _ => false
def srefFirst : List AVal → Bool | .sref .. :: _ => true | _ => false
def dataFirst : List AVal → Bool | .d .. :: _ => true | _ => false

@[simp] theorem sel_true {α : Type} (x y : Option α) : sel true x y = x := rfl
@[simp] theorem sel_false {α : Type} (x y : Option α) : sel false x y = y := rfl
@[simp] theorem obind_some {α β : Type} (x : α) (f : α → Option β) : obind (some x) f = f x := rfl
@[simp] theorem nd_same {α : Type} (x : Option α) : nd x x = x := by simp [nd]
theorem sel_if {α : Type} (c : Bool) (x y : Option α) : sel c x y = if c then x else y := by cases c <;> rfl

end Go.Ab
