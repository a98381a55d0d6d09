/-
  The abstract machine, a part.
-/
import Derived.Test.YtglpcfdjdabdnaaAb26
import Derived.Laws.Externs
import Derived.KernelRfl

/-
  Numbers: wrapping, words.
-/
namespace Go.Ab

theorem i64_wrap {n : Int} (h1 : -9223372036854775808 ≤ n) (h2 : n ≤ 9223372036854775807) : IntKind.i64.wrap n = n := by
  simp [IntKind.wrap, IntKind.bits, IntKind.signed]
  split <;> omega

theorem iadd_i64 {x y : Int} (h1 : -9223372036854775808 ≤ x + y) (h2 : x + y ≤ 9223372036854775807) : iadd .i64 x y = x + y := i64_wrap h1 h2
theorem isub_i64 {x y : Int} (h1 : -9223372036854775808 ≤ x - y) (h2 : x - y ≤ 9223372036854775807) : isub .i64 x y = x - y := i64_wrap h1 h2
theorem imul_i64 {x y : Int} (h1 : -9223372036854775808 ≤ x * y) (h2 : x * y ≤ 9223372036854775807) : imul .i64 x y = x * y := i64_wrap h1 h2
theorem icv_i64 {x : Int} (h1 : -9223372036854775808 ≤ x) (h2 : x ≤ 9223372036854775807) : icv .i64 x = x := i64_wrap h1 h2

/-- A word as a number. -/
def vw {n : Nat} (w : BitVec n) : Int := (w.toNat : Int)

theorem vw_ofInt (n : Nat) (x : Int) : vw (BitVec.ofInt n x) = x % ((2 ^ n : Nat) : Int) := by
  unfold vw
  rw [BitVec.toNat_ofInt]
  have : 0 ≤ x % ((2 ^ n : Nat) : Int) := Int.emod_nonneg _ (by have := Nat.two_pow_pos n; omega)
  omega

theorem vw_nonneg {n : Nat} (w : BitVec n) : 0 ≤ vw w := Int.natCast_nonneg _
theorem vw_lt {n : Nat} (w : BitVec n) : vw w < ((2 ^ n : Nat) : Int) := by have := w.isLt; unfold vw; omega
theorem ofInt_vw {n : Nat} (w : BitVec n) : BitVec.ofInt n (vw w) = w := by
  apply BitVec.eq_of_toNat_eq
  have := vw_ofInt n (vw w)
  unfold vw at this ⊢
  have h := w.isLt
  rw [Int.emod_eq_of_lt (Int.natCast_nonneg _) (by omega)] at this
  omega
theorem vw_inj {n : Nat} {x y : BitVec n} (h : vw x = vw y) : x = y := by rw [← ofInt_vw x, h, ofInt_vw]

theorem wrap_u32 (x : Int) : IntKind.u32.wrap x = vw (BitVec.ofInt 32 x) := by rw [vw_ofInt]; simp [IntKind.wrap, IntKind.bits, IntKind.signed]
theorem wrap_u64 (x : Int) : IntKind.u64.wrap x = vw (BitVec.ofInt 64 x) := by rw [vw_ofInt]; simp [IntKind.wrap, IntKind.bits, IntKind.signed]
theorem wrap_u8 (x : Int) : IntKind.u8.wrap x = vw (BitVec.ofInt 8 x) := by rw [vw_ofInt]; simp [IntKind.wrap, IntKind.bits, IntKind.signed]
theorem wrap_u16 (x : Int) : IntKind.u16.wrap x = vw (BitVec.ofInt 16 x) := by rw [vw_ofInt]; simp [IntKind.wrap, IntKind.bits, IntKind.signed]

theorem ofInt_add (n : Nat) (x y : Int) : BitVec.ofInt n (x + y) = BitVec.ofInt n x + BitVec.ofInt n y := BitVec.ofInt_add ..
theorem iadd_u32 (x y : BitVec 32) : iadd .u32 (vw x) (vw y) = vw (x + y) := by rw [iadd, wrap_u32, BitVec.ofInt_add, ofInt_vw, ofInt_vw]
theorem iadd_u64 (x y : BitVec 64) : iadd .u64 (vw x) (vw y) = vw (x + y) := by rw [iadd, wrap_u64, BitVec.ofInt_add, ofInt_vw, ofInt_vw]
theorem icv_u32 (x : Int) : icv .u32 x = vw (BitVec.ofInt 32 x) := wrap_u32 x
theorem icv_u64 (x : Int) : icv .u64 x = vw (BitVec.ofInt 64 x) := wrap_u64 x
theorem icv_u8 (x : Int) : icv .u8 x = vw (BitVec.ofInt 8 x) := wrap_u8 x

theorem nat_vw {n : Nat} (x : BitVec n) : BitVec.ofInt n ((x.toNat : Nat) : Int) = x := ofInt_vw x

theorem bitop_u32 (op : BinOp) (x y : BitVec 32) : bitop op .u32 (vw x) (vw y) = vw (match op with | .and => x &&& y | .or => x ||| y | .xor => x ^^^ y | _ => x &&& ~~~y) := by
  unfold bitop
  split <;> (simp only [IntKind.bits, ofInt_vw, wrap_u32, nat_vw]; rfl)
theorem bitop_u64 (op : BinOp) (x y : BitVec 64) : bitop op .u64 (vw x) (vw y) = vw (match op with | .and => x &&& y | .or => x ||| y | .xor => x ^^^ y | _ => x &&& ~~~y) := by
  unfold bitop
  split <;> (simp only [IntKind.bits, ofInt_vw, wrap_u64, nat_vw]; rfl)
theorem bitop_u8 (op : BinOp) (x y : BitVec 8) : bitop op .u8 (vw x) (vw y) = vw (match op with | .and => x &&& y | .or => x ||| y | .xor => x ^^^ y | _ => x &&& ~~~y) := by
  unfold bitop
  split <;> (simp only [IntKind.bits, ofInt_vw, wrap_u8, nat_vw]; rfl)

theorem fdiv_nat (x y : Nat) : Int.fdiv (x : Int) (y : Int) = ((x / y : Nat) : Int) := by
  rw [Int.fdiv_eq_ediv_of_nonneg _ (Int.natCast_nonneg _)]
  rfl

theorem two_pow_cast (k : Nat) : (2 : Int) ^ k = ((2 ^ k : Nat) : Int) := by simp

theorem shr_vw {n : Nat} (w : BitVec n) (k : Nat) : Int.fdiv (vw w) (2 ^ (min k n)) = vw (w >>> k) := by
  rw [two_pow_cast]
  unfold vw
  rw [fdiv_nat, BitVec.toNat_ushiftRight, Nat.shiftRight_eq_div_pow]
  congr 1
  rcases Nat.le_total k n with hk | hk
  · rw [Nat.min_eq_left hk]
  · rw [Nat.min_eq_right hk, Nat.div_eq_of_lt w.isLt, Nat.div_eq_of_lt]
    exact Nat.lt_of_lt_of_le w.isLt (Nat.pow_le_pow_right (by omega) hk)

theorem ishr_u32 (w : BitVec 32) (k : Int) : ishr .u32 (vw w) k = vw (w >>> k.toNat) := shr_vw w k.toNat
theorem ishr_u64 (w : BitVec 64) (k : Int) : ishr .u64 (vw w) k = vw (w >>> k.toNat) := shr_vw w k.toNat
theorem ishr_u8 (w : BitVec 8) (k : Int) : ishr .u8 (vw w) k = vw (w >>> k.toNat) := shr_vw w k.toNat

theorem shl_vw {n : Nat} (w : BitVec n) (k : Nat) : BitVec.ofInt n (vw w * 2 ^ (min k n)) = w <<< k := by
  apply BitVec.eq_of_toNat_eq
  rw [BitVec.toNat_ofInt, BitVec.toNat_shiftLeft, Nat.shiftLeft_eq]
  unfold vw
  rw [two_pow_cast]
  have e : ((w.toNat : Int) * ((2 ^ min k n : Nat) : Int)) = ((w.toNat * 2 ^ min k n : Nat) : Int) := by simp
  rw [e]
  have : (((w.toNat * 2 ^ min k n : Nat) : Int) % ((2 ^ n : Nat) : Int)).toNat = (w.toNat * 2 ^ min k n) % 2 ^ n := by omega
  rw [this]
  rcases Nat.le_total k n with hk | hk
  · rw [Nat.min_eq_left hk]
  · rw [Nat.min_eq_right hk, Nat.mul_mod_left]
    obtain ⟨m, rfl⟩ := Nat.exists_eq_add_of_le hk
    rw [Nat.pow_add, ← Nat.mul_assoc, Nat.mul_right_comm, Nat.mul_mod_left]

theorem ishl_u32 (w : BitVec 32) (k : Int) : ishl .u32 (vw w) k = vw (w <<< k.toNat) := by rw [ishl, wrap_u32]; congr 1; exact shl_vw w k.toNat
theorem ishl_u64 (w : BitVec 64) (k : Int) : ishl .u64 (vw w) k = vw (w <<< k.toNat) := by rw [ishl, wrap_u64]; congr 1; exact shl_vw w k.toNat
theorem ishl_u8 (w : BitVec 8) (k : Int) : ishl .u8 (vw w) k = vw (w <<< k.toNat) := by rw [ishl, wrap_u8]; congr 1; exact shl_vw w k.toNat

/-! ### Tests -/

theorem inb_true {i n : Int} (h1 : 0 ≤ i) (h2 : i < n) : inb i n = true := by simp [inb, h1, h2]
theorem inc_true {i n : Int} (h1 : 0 ≤ i) (h2 : i ≤ n) : inc i n = true := by simp [inc, h1, h2]
theorem ilt_true {x y : Int} (h : x < y) : ilt x y = true := by simp [ilt, h]
theorem ilt_false {x y : Int} (h : ¬ x < y) : ilt x y = false := by simp [ilt]; omega
theorem ile_true {x y : Int} (h : x ≤ y) : ile x y = true := by simp [ile, h]
theorem ile_false {x y : Int} (h : ¬ x ≤ y) : ile x y = false := by simp [ile]; omega
theorem igt_true {x y : Int} (h : x > y) : igt x y = true := by simp [igt]; omega
theorem igt_false {x y : Int} (h : ¬ x > y) : igt x y = false := by simp [igt]; omega
theorem ige_true {x y : Int} (h : x ≥ y) : ige x y = true := by simp [ige]; omega
theorem ige_false {x y : Int} (h : ¬ x ≥ y) : ige x y = false := by simp [ige]; omega
theorem ieq_true {x y : Int} (h : x = y) : ieq x y = true := by simp [ieq, h]
theorem ieq_false {x y : Int} (h : ¬ x = y) : ieq x y = false := by simp [ieq, h]
theorem ine_true {x y : Int} (h : ¬ x = y) : ine x y = true := by simp [ine, h]
theorem ine_false {x y : Int} (h : x = y) : ine x y = false := by simp [ine, h]
theorem nonneg_true {x : Int} (h : 0 ≤ x) : nonneg x = true := by simp [nonneg, h]
theorem dec_true {p : Prop} [Decidable p] (h : p) : decide p = true := by simp [h]
theorem dec_false {p : Prop} [Decidable p] (h : ¬ p) : decide p = false := by simp [h]
theorem room_true {n b : Nat} (h : n * b ≤ 140737488355328) (h2 : n ≤ 9223372036854775807) : roomA n b = true := by simp [roomA, h, h2]

/-! ### Rows that are changed place by place -/

def from_ {α : Type} (f : Nat → α → α) (t : Nat) (l : List α) : List α := l.mapIdx fun i x => if i < t then x else f i x
theorem from_step {α : Type} (f : Nat → α → α) (l : List α) (t : Nat) (h : t < l.length) : from_ f (t + 1) (l.set t (f t l[t])) = from_ f t l := by
  unfold from_
  apply List.ext_getElem (by simp)
  intro i h1 h2
  simp only [List.getElem_mapIdx, List.getElem_set]
  by_cases hi : t = i
  · subst hi; simp
  · simp only [if_neg hi]
    by_cases h3 : i < t
    · rw [if_pos (by omega), if_pos h3]
    · rw [if_neg (by omega), if_neg h3]
theorem from_end {α : Type} (f : Nat → α → α) (l : List α) (t : Nat) (h : l.length ≤ t) : from_ f t l = l := by
  unfold from_
  apply List.ext_getElem (by simp)
  intro i h1 h2
  simp only [List.getElem_mapIdx]
  rw [if_pos (by omega)]

theorem from_replicate {α : Type} (f : Nat → α → α) (n : Nat) (x : α) : from_ f 0 (List.replicate n x) = (List.range n).map fun i => f i x := by
  unfold from_
  apply List.ext_getElem (by simp)
  intro i h1 h2
  simp

theorem nth_lt {t : Ty} {l : List t.den} {i : Nat} (h : i < l.length) : nth t l i = l[i] := by simp [nth, h]

end Go.Ab

/-
  Numbers and tests for the simplifier, with side conditions that linear arithmetic closes.
-/
namespace Go.Ab.N

section
variable {α : Type} {x y : Option α} {a b n : Nat} {i j : Int}
theorem lt : sel (ilt i j) x y = if i < j then x else y := by unfold ilt; split <;> rename_i h <;> simp [h]
theorem le : sel (ile i j) x y = if i ≤ j then x else y := by unfold ile; split <;> rename_i h <;> simp [h]
theorem gt : sel (igt i j) x y = if j < i then x else y := by unfold igt; split <;> rename_i h <;> simp [h]
theorem ge : sel (ige i j) x y = if j ≤ i then x else y := by unfold ige; split <;> rename_i h <;> simp [h]
theorem eq : sel (ieq i j) x y = if i = j then x else y := by
  by_cases h : i = j
  · rw [ieq_true h, if_pos h]; rfl
  · rw [ieq_false h, if_neg h]; rfl
theorem ne : sel (ine i j) x y = if i = j then y else x := by
  by_cases h : i = j
  · rw [ine_false h, if_pos h]; rfl
  · rw [ine_true h, if_neg h]; rfl
theorem ib : sel (inb i j) x y = if 0 ≤ i ∧ i < j then x else y := by unfold inb; split <;> rename_i h <;> simp [h]
theorem ic : sel (inc i j) x y = if 0 ≤ i ∧ i ≤ j then x else y := by unfold inc; split <;> rename_i h <;> simp [h]
theorem nn : sel (nonneg i) x y = if 0 ≤ i then x else y := by unfold nonneg; split <;> rename_i h <;> simp [h]
theorem nz : sel (nonzero i) x y = if i = 0 then y else x := by unfold nonzero; split <;> rename_i h <;> simp [h]
theorem dc {p : Prop} [Decidable p] : sel (decide p) x y = if p then x else y := by split <;> rename_i h <;> simp [h]
theorem rm : sel (roomA n b) x y = if n * b ≤ 140737488355328 ∧ n ≤ 9223372036854775807 then x else y := by unfold roomA; exact dc
theorem an {c d : Bool} : sel (c && d) x y = sel c (sel d x y) y := by cases c <;> rfl
theorem or {c d : Bool} : sel (c || d) x y = sel c x (sel d x y) := by cases c <;> rfl
theorem no {c : Bool} : sel (!c) x y = sel c y x := by cases c <;> rfl
theorem cd {c d e : Bool} : sel (cond c d e) x y = sel c (sel d x y) (sel e x y) := by cases c <;> rfl

theorem aNN (h : a + b ≤ 9223372036854775807) : iadd .i64 (a : Int) (b : Int) = ((a + b : Nat) : Int) := by rw [iadd_i64 (by omega) (by omega)]; omega
theorem aNL (h : a + OfNat.ofNat n ≤ 9223372036854775807) : iadd .i64 (a : Int) (no_index (OfNat.ofNat n)) = ((a + OfNat.ofNat n : Nat) : Int) := aNN h
theorem aLN (h : OfNat.ofNat n + a ≤ 9223372036854775807) : iadd .i64 (no_index (OfNat.ofNat n)) (a : Int) = ((OfNat.ofNat n + a : Nat) : Int) := aNN h
theorem sNN (h : b ≤ a) (h2 : a ≤ 9223372036854775807) : isub .i64 (a : Int) (b : Int) = ((a - b : Nat) : Int) := by rw [isub_i64 (by omega) (by omega)]; omega
theorem sNL (h : OfNat.ofNat n ≤ a) (h2 : a ≤ 9223372036854775807) : isub .i64 (a : Int) (no_index (OfNat.ofNat n)) = ((a - OfNat.ofNat n : Nat) : Int) := sNN h h2
theorem sLN (h : a ≤ OfNat.ofNat n) (h2 : (OfNat.ofNat n : Nat) ≤ 9223372036854775807) : isub .i64 (no_index (OfNat.ofNat n)) (a : Int) = ((OfNat.ofNat n - a : Nat) : Int) := sNN h h2
theorem mNN (h : a * b ≤ 9223372036854775807) : imul .i64 (a : Int) (b : Int) = ((a * b : Nat) : Int) := by
  have e : (a : Int) * (b : Int) = ((a * b : Nat) : Int) := by simp
  rw [imul_i64 (by omega) (by omega), e]
theorem mNL (h : a * OfNat.ofNat n ≤ 9223372036854775807) : imul .i64 (a : Int) (no_index (OfNat.ofNat n)) = ((a * OfNat.ofNat n : Nat) : Int) := mNN h
theorem mLN (h : OfNat.ofNat n * a ≤ 9223372036854775807) : imul .i64 (no_index (OfNat.ofNat n)) (a : Int) = ((OfNat.ofNat n * a : Nat) : Int) := mNN h
theorem qNN (h : a ≤ 9223372036854775807) : iquo .i64 (a : Int) (b : Int) = ((a / b : Nat) : Int) := by
  have : (a : Int).tdiv (b : Int) = ((a / b : Nat) : Int) := by rw [Int.tdiv_eq_ediv_of_nonneg (by omega)]; simp
  have hl : a / b ≤ a := Nat.div_le_self a b
  unfold iquo
  rw [this]
  generalize a / b = c at hl
  exact i64_wrap (by omega) (by omega)
theorem qNL (h : a ≤ 9223372036854775807) : iquo .i64 (a : Int) (no_index (OfNat.ofNat n)) = ((a / OfNat.ofNat n : Nat) : Int) := qNN h
theorem rNN : irem (a : Int) (b : Int) = ((a % b : Nat) : Int) := by
  unfold irem
  rw [Int.tmod_eq_emod_of_nonneg (by omega)]
  simp
theorem rNL : irem (a : Int) (no_index (OfNat.ofNat n)) = ((a % OfNat.ofNat n : Nat) : Int) := rNN
theorem cN (h : a ≤ 9223372036854775807) : icv .i64 (a : Int) = (a : Int) := icv_i64 (by omega) (by omega)
theorem cL (h : (OfNat.ofNat n : Nat) ≤ 9223372036854775807) : icv .i64 (no_index (OfNat.ofNat n)) = OfNat.ofNat n := cN h
theorem tL : Int.toNat (no_index (OfNat.ofNat n)) = OfNat.ofNat n := rfl
end
end Go.Ab.N

/-
  Functions that the model knows by itself: what is known of them.
-/
namespace Go.Ab

section
variable {P : Program}

theorem env_same {E E' : Env} (h1 : E'.w = E.w) (h2 : E'.g = E.g) (h3 : E'.β = E.β) (h4 : E'.s = E.s) : E' = E := by
  obtain ⟨a, b, c, d⟩ := E
  obtain ⟨a', b', c', d'⟩ := E'
  simp only at h1 h2 h3 h4
  subst h1 h2 h3 h4
  rfl

/-- Nothing happens but that a value is told. -/
theorem After.same {w : World} {g : Nat → Lab} {β : Id → Option Pl} {olds : List Ent} {a : AVal} {v : Value} (hv : VS ((lent olds).env w g β) a v) (ho : Objs ((lent olds).env w g β)) :
    After ((lent olds).env w g β) ⟨a, olds, []⟩ v w := by
  have hE : (GRes.st ⟨a, olds, []⟩).env w g β = (lent olds).env w g β := by
    refine env_same rfl rfl rfl ?_
    funext id
    cases id with
    | old k => rfl
    | new i j =>
      show ([([] : List Ent)].getD i [])[j]? = (([] : List (List Ent)).getD i [])[j]?
      cases i <;> rfl
  refine ⟨g, β, ?_⟩
  rw [hE]
  exact ⟨hv, ho, Trans.refl w g, EnvLe.refl _⟩

theorem Does.extern {f : FuncId} {fn : Func} {e : Array Value → Sem Value} (hf : P.funcs[f]? = some fn) (hname : (fn.name == "runtime.NumGoroutine") = false) (hb : fn.body.isNone = true) (hn : Extern.findNext fn = none) (he : Extern.find fn = some e) {en : Entry}
    (h : ∀ w g β args olds vals x, VSs ((lent olds).env w g β) args vals → Objs ((lent olds).env w g β) → en.run args olds = some x → ∃ v, (e vals.toArray).run P w = .ok v w ∧ After ((lent olds).env w g β) (en.out args olds x) v w) : Does P f en := by
  intro w g β args olds vals x h1 h2 h3
  obtain ⟨v, h4, h5⟩ := h w g β args olds vals x h1 h2 h3
  refine .inr ⟨v, w, ?_, h5⟩
  rw [run_callFunc_extern hf hname hb hn he, h4]
  rfl

/-! ### A pointer as it is -/

def noEsc.E : Entry := { params := [none], X := Unit, run := fun args _ => match args with | [_] => some () | _ => none, out := fun args olds _ => ⟨args.headD .undef, olds, []⟩ }

theorem noEsc.of {f : FuncId} {fn : Func} (hf : P.funcs[f]? = some fn) (hname : (fn.name == "runtime.NumGoroutine") = false) (hb : fn.body.isNone = true) (hn : Extern.findNext fn = none) (he : Extern.find fn = some Extern.AbiNoEscape.same) : Does P f noEsc.E := by
  refine Does.extern hf hname hb hn he fun w g β args olds vals x h1 h2 h3 => ?_
  cases args with
  | nil => cases h3
  | cons a as =>
    cases as with
    | cons _ _ => cases h3
    | nil =>
      cases vals with
      | nil => exact h1.elim
      | cons v vs =>
        obtain ⟨h4, h5⟩ := h1
        cases vs with
        | cons _ _ => exact h5.elim
        | nil => exact ⟨v, rfl, After.same h4 h2⟩

/-! ### Where a byte stands in a text -/

noncomputable def ixb.E : Entry := Entry.of (D := ByteArray × Int) (X := Int) [some .str, some (.int .u8)] (fun d => ([.d .str d.1, .d (.int .u8) d.2], [])) (fun _ => True) (fun d => firstIdx d.1 d.2.toNat.toUInt8) (fun x => ⟨.d (.int .i64) x, [], []⟩)
theorem ixb.inj : ∀ d d' : ByteArray × Int, (([AVal.d .str d.1, AVal.d (.int .u8) d.2], ([] : List Ent)) : List AVal × List Ent) = ([.d .str d'.1, .d (.int .u8) d'.2], []) → d = d' := by
  rintro ⟨a, b⟩ ⟨a', b'⟩ h
  have e1 : a = a' := d_inj (t := .str) (congrArg (fun s : List AVal × List Ent => s.1.getD 0 .undef) h)
  have e2 : b = b' := d_inj (t := .int .u8) (congrArg (fun s : List AVal × List Ent => s.1.getD 1 .undef) h)
  rw [e1, e2]
noncomputable def ixb.call : ByteArray × Int → Option Int := fun d => ixb.E.run [.d .str d.1, .d (.int .u8) d.2] []
theorem ixb.run (d : ByteArray × Int) : ixb.call d = some (firstIdx d.1 d.2.toNat.toUInt8) := Entry.of_run (d := d) ixb.inj trivial
theorem ixb.of {f : FuncId} {fn : Func} (hf : P.funcs[f]? = some fn) (hname : (fn.name == "runtime.NumGoroutine") = false) (hb : fn.body.isNone = true) (hn : Extern.findNext fn = none) (he : Extern.find fn = some Extern.BytealgIndexByte.indexByte) : Does P f ixb.E := by
  refine Does.extern hf hname hb hn he fun w g β args olds vals x h1 h2 h3 => ?_
  have hx : ∃ d : ByteArray × Int, (([AVal.d .str d.1, AVal.d (.int .u8) d.2], ([] : List Ent)) : List AVal × List Ent) = (args, olds) := by
    by_cases hh : ∃ d : ByteArray × Int, (([AVal.d .str d.1, AVal.d (.int .u8) d.2], ([] : List Ent)) : List AVal × List Ent) = (args, olds)
    · exact hh
    · exfalso
      have hn : ixb.E.run args olds = none := dif_neg fun ⟨d, h, _⟩ => hh ⟨d, h⟩
      rw [hn] at h3
      cases h3
  obtain ⟨d, hd⟩ := hx
  simp only [Prod.mk.injEq] at hd
  obtain ⟨rfl, rfl⟩ := hd
  have hr := ixb.run d
  have hx : x = firstIdx d.1 d.2.toNat.toUInt8 := Option.some.inj (h3.symm.trans hr)
  subst hx
  match vals, h1 with
  | [u, v], ⟨h4, h5, _⟩ =>
    refine ⟨.int .i64 (firstIdx d.1 d.2.toNat.toUInt8), ?_, After.same (VS_int _ _) h2⟩
    rw [str_of h4, int_of h5]
    exact run_indexByte_string d.1 d.2 w

/-! ### One of two -/

def altL {X Y : Type} [Inhabited Y] (x : Option X) : Option (X × Y) := obind x fun y => some (y, default)
def altR {X Y : Type} [Inhabited X] (x : Option Y) : Option (X × Y) := obind x fun y => some (default, y)
@[simp] theorem altL_some {X Y : Type} [Inhabited Y] (x : X) : altL (Y := Y) (some x) = some (x, default) := rfl
@[simp] theorem altR_some {X Y : Type} [Inhabited X] (x : Y) : altR (X := X) (some x) = some (default, x) := rfl

def Entry.alt (p : List AVal → List Ent → Bool) (params : List (Option Ty)) {X Y : Type} [Inhabited X] [Inhabited Y] (r1 : List AVal → List Ent → Option X) (r2 : List AVal → List Ent → Option Y) (o1 : List AVal → List Ent → X → GRes) (o2 : List AVal → List Ent → Y → GRes) : Entry :=
  { params, X := X × Y, run := fun a o => match p a o with | true => altL (r1 a o) | false => altR (r2 a o), out := fun a o x => match p a o with | true => o1 a o x.1 | false => o2 a o x.2 }

theorem Does.alt {f : FuncId} {p : List AVal → List Ent → Bool} {params : List (Option Ty)} {X Y : Type} [Inhabited X] [Inhabited Y] {r1 : List AVal → List Ent → Option X} {r2 : List AVal → List Ent → Option Y} {o1 : List AVal → List Ent → X → GRes} {o2 : List AVal → List Ent → Y → GRes}
    (h1 : Does P f { params, X, run := r1, out := o1 }) (h2 : Does P f { params, X := Y, run := r2, out := o2 }) : Does P f (Entry.alt p params r1 r2 o1 o2) := by
  intro w g β args olds vals x h3 h4 h5
  have h5 : (match p args olds with | true => altL (r1 args olds) | false => altR (r2 args olds)) = some x := h5
  cases hp : p args olds with
  | true =>
    rw [hp] at h5
    cases hr : r1 args olds with
    | none => rw [hr] at h5; cases h5
    | some y =>
      rw [hr] at h5
      obtain rfl : (y, default) = x := Option.some.inj h5
      have := h1 w g β args olds vals y h3 h4 hr
      have e : (Entry.alt p params r1 r2 o1 o2).out args olds (y, default) = o1 args olds y := by show (match p args olds with | true => o1 args olds y | false => o2 args olds default) = _; rw [hp]
      rw [e]
      exact this
  | false =>
    rw [hp] at h5
    cases hr : r2 args olds with
    | none => rw [hr] at h5; cases h5
    | some y =>
      rw [hr] at h5
      obtain rfl : (default, y) = x := Option.some.inj h5
      have := h2 w g β args olds vals y h3 h4 hr
      have e : (Entry.alt p params r1 r2 o1 o2).out args olds (default, y) = o2 args olds y := by show (match p args olds with | true => o1 args olds default | false => o2 args olds y) = _; rw [hp]
      rw [e]
      exact this

def oneOld : List AVal → List Ent → Bool := fun _ olds => match olds with | [_] => true | _ => false
end
end Go.Ab
