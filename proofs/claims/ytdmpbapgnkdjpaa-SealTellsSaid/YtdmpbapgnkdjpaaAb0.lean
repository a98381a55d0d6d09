/-
  An abstract machine for the model's code: slots hold typed pure data, boxes and own slices are objects. Definitions only.
-/
import Derived.WalkKit
import Derived.KernelRfl
namespace Go.Ab

/-! ### Types and data -/

inductive Ty where
  | int (k : IntKind) | bool | str | slice (t : Ty) | unit | pair (a b : Ty) | arr (n : Nat) (t : Ty)
  deriving DecidableEq, Inhabited

@[reducible] def Ty.den : Ty → Type
  | .int _ => Int
  | .bool => Bool
  | .str => ByteArray
  | .slice t => List t.den
  | .unit => Unit
  | .pair a b => a.den × b.den
  | .arr _ t => List t.den

def Ty.size : Ty → Nat
  | .unit => 0
  | .pair a b => a.size + b.size
  | .arr n t => n * t.size
  | .int _ | .bool | .str | .slice _ => 1

def Ty.agg : Ty → Bool
  | .unit | .pair _ _ | .arr _ _ => true
  | .int _ | .bool | .str | .slice _ => false

def Ty.zero : (t : Ty) → t.den
  | .int _ => (0 : Int)
  | .bool => false
  | .str => ByteArray.empty
  | .slice _ => []
  | .unit => ()
  | .pair a b => (a.zero, b.zero)
  | .arr n t => List.replicate n t.zero

/-- Whether values of the type can be compared. -/
def Ty.comp : Ty → Bool
  | .slice _ => false
  | .pair a b => a.comp && b.comp
  | .arr _ t => t.comp
  | .int _ | .bool | .str | .unit => true

def listBeq {α : Type} (f : α → α → Bool) : List α → List α → Bool
  | [], [] => true
  | x :: xs, y :: ys => f x y && listBeq f xs ys
  | _, _ => false

def Ty.beq : (t : Ty) → t.den → t.den → Bool
  | .int _, x, y => (x : Int) == y
  | .bool, x, y => (x : Bool) == y
  | .str, x, y => (x : ByteArray).toList == (y : ByteArray).toList
  | .slice t, x, y => listBeq t.beq x y
  | .unit, _, _ => true
  | .pair a b, x, y => a.beq x.1 y.1 && b.beq x.2 y.2
  | .arr _ t, x, y => listBeq t.beq x y

def castTy (t t' : Ty) (x : t.den) : Option t'.den := if h : t = t' then some (h ▸ x) else none

def nth (t : Ty) (l : List t.den) (i : Nat) : t.den := l.getD i t.zero

/-! ### Abstract values -/

inductive Id where
  | old (k : Nat)
  | new (site j : Nat)
  deriving DecidableEq, Inhabited

inductive Stp where
  | fst | snd
  | idx (i : Nat)
  /-- The array itself, as a row. -/
  | arr

inductive AVal where
  | undef
  | gone
  | nils | nilp | nilf | nilm
  | d (t : Ty) (x : t.den)
  | pr (a b : AVal)
  | ptr (id : Id) (ver : Nat) (p : List Stp) (n : Nat)
  | rptr (t : Ty) (x : t.den)
  | sref (id : Id) (ver : Nat) (p : List Stp) (c i len : Nat)
  | fn (f : FuncId) (caps : AVal)
  | cons (a b : AVal)
  | nil
  | vec (e : TypeId) (t : Ty) (l : List t.den)
  /-- Bytes out of a text: their block bears a mark. -/
  | sb (l : List Int)

inductive Ent where
  | dead
  | obj (ver : Nat) (fr : Bool) (c : AVal)

structure AS where
  slots : List AVal
  olds : List Ent
  news : List (List Ent)

/-! ### Outcomes -/

inductive Out (α : Type) : Type 1 where
  | ok (a : α)
  | fail
  | chk (c : Bool) (r : Out α)
  | get {β : Type} (x : Option β) (f : β → Out α)
  | br (c : Bool) (a b : Out α)

def Out.eval {α : Type} : Out α → Option α
  | .ok a => some a
  | .fail => none
  | .chk c r => match c with | true => r.eval | false => none
  | .get x f => match x with | some y => (f y).eval | none => none
  | .br c a b => match c with | true => a.eval | false => b.eval

def sel {α : Type} (c : Bool) (x y : Option α) : Option α := match c with | true => x | false => y
def obind {α β : Type} (x : Option α) (f : α → Option β) : Option β := match x with | some a => f a | none => none

def Out.run {α R : Type} : Out α → (α → Option R) → Option R
  | .ok a, k => k a
  | .fail, _ => none
  | .chk c r, k => sel c (r.run k) none
  | .get x f, k => obind x fun y => (f y).run k
  | .br c a b, k => sel c (a.run k) (b.run k)

def Out.bind {α β : Type} : Out α → (α → Out β) → Out β
  | .ok a, f => f a
  | .fail, _ => .fail
  | .chk c r, f => .chk c (r.bind f)
  | .get x g, f => .get x fun y => (g y).bind f
  | .br c a b, f => .br c (a.bind f) (b.bind f)

def Out.opt {α : Type} : Option α → Out α
  | some a => .ok a
  | none => .fail

/-- A test whose outcome is looked at as the machine runs: where it is a literal nothing is left of it. -/
def Out.guard {α : Type} (c : Bool) (r : Out α) : Out α := match c with | true => r | false => .fail

/-! ### Small functions on values -/

def AVal.size : AVal → Nat
  | .d t _ => t.size
  | .pr a b => a.size + b.size
  | _ => 1

def AVal.agg : AVal → Bool
  | .d t _ => t.agg
  | .pr _ _ => true
  | _ => false

/-- May it lie in cells? -/
def AVal.celled : AVal → Bool
  | .undef | .cons _ _ | .nil | .vec .. => false
  | _ => true

def mkPr : AVal → AVal → AVal
  | .d a x, .d b y => .d (.pair a b) (x, y)
  | a, b => .pr a b

def ofConst : Value → AVal
  | .bool b => .d .bool b
  | .int k n => .d (.int k) n
  | .string s => .d .str s
  | .slice none 0 0 => .nils
  | .pointer none => .nilp
  | .nilFunc => .nilf
  | .map none => .nilm
  | _ => .undef

def AS.slot (s : AS) (i : Nat) : AVal := s.slots.getD i .undef

def AS.ev (s : AS) : Operand → AVal
  | .tmp t => s.slot t
  | .const v => ofConst v
  | .func f => .fn f .nil
  | .global _ => .undef

def AS.put (s : AS) (dst : Option Tmp) (v : AVal) : AS :=
  match dst with
  | some t => { s with slots := s.slots.set t v }
  | none => s

def AS.ent (s : AS) : Id → Option Ent
  | .old k => s.olds[k]?
  | .new i j => (s.news.getD i [])[j]?

def AS.setEnt (s : AS) (id : Id) (e : Ent) : AS :=
  match id with
  | .old k => { s with olds := s.olds.set k e }
  | .new i j => { s with news := s.news.set i ((s.news.getD i []).set j e) }

/-- Is there room for objects of this site: has it made none? -/
def AS.virgin (s : AS) (i : Nat) : Bool := match s.news[i]? with | some [] => true | _ => false

def AS.born (s : AS) (i : Nat) (es : List Ent) : AS := { s with news := s.news.set i es }

def AS.obj (s : AS) (id : Id) : Option (Nat × Bool × AVal) :=
  match s.ent id with
  | some (.obj v f c) => some (v, f, c)
  | _ => none

/-! ### Types of the program -/

def tyOf (P : Program) : Nat → TypeId → Option Ty
  | 0, _ => none
  | n + 1, T =>
    match P.underlying T with
    | some (.int k) => some (.int k)
    | some .bool => some .bool
    | some .string => some .str
    | some (.slice e) => match tyOf P n e with | some t => some (.slice t) | none => none
    | some (.array k e) => match tyOf P n e with | some t => some (.arr k t) | none => none
    | some (.struct fs) => fs.toList.foldr (fun f acc => match tyOf P n f.type, acc with | some a, some b => some (.pair a b) | _, _ => none) (some .unit)
    | _ => none

def zeroOf (P : Program) : Nat → TypeId → Option AVal
  | 0, _ => none
  | n + 1, T =>
    match P.underlying T with
    | some (.int k) => some (.d (.int k) (0 : Int))
    | some .bool => some (.d .bool false)
    | some .string => some (.d .str ByteArray.empty)
    | some (.slice _) => some .nils
    | some (.pointer _) => some .nilp
    | some (.map _ _) => some .nilm
    | some (.func _ _ _) => some .nilf
    | some (.array k e) => match tyOf P n e with | some t => some (.d (.arr k t) (List.replicate k t.zero)) | none => none
    | some (.struct fs) => fs.toList.foldr (fun f acc => match zeroOf P n f.type, acc with | some a, some b => some (mkPr a b) | _, _ => none) (some (.d .unit ()))
    | _ => none

def depth : Nat := 12

/-- Does a value of this type take as many cells, and is it made of parts as the type is? -/
def fits (P : Program) (T : TypeId) (v : AVal) : Bool :=
  v.celled && (P.cellsOf T == v.size) &&
  (match P.underlying T with | some (.struct _) => v.agg | some (.array _ _) => v.agg | some _ => !v.agg | none => false)

def fieldPath : Nat → List Stp
  | 0 => [.fst]
  | n + 1 => .snd :: fieldPath n

/-! ### Looking into contents -/

def loc : AVal → List Stp → Out (Nat × AVal)
  | c, [] => .ok (0, c)
  | c, .arr :: p => loc c p
  | .pr a _, .fst :: p => loc a p
  | .pr a b, .snd :: p => (loc b p).bind fun (n, v) => .ok (a.size + n, v)
  | .d (.pair a _) x, .fst :: p => loc (.d a x.1) p
  | .d (.pair a b) x, .snd :: p => (loc (.d b x.2) p).bind fun (n, v) => .ok (a.size + n, v)
  | .d (.arr _ t) l, .idx i :: p => .chk (decide (i < (l : List t.den).length)) ((loc (.d t (nth t l i)) p).bind fun (n, v) => .ok (i * t.size + n, v))
  | .vec _ t l, .idx i :: p => .chk (decide (i < l.length)) ((loc (.d t (nth t l i)) p).bind fun (n, v) => .ok (i * t.size + n, v))
  | _, _ :: _ => .fail

def upd : AVal → List Stp → AVal → Out AVal
  | c, .arr :: p, v => upd c p v
  | .vec .., [], _ => .fail
  | c, [], v => .guard (v.celled && (c.size == v.size)) (.ok v)
  | .pr a b, .fst :: p, v => (upd a p v).bind fun a' => .ok (mkPr a' b)
  | .pr a b, .snd :: p, v => (upd b p v).bind fun b' => .ok (mkPr a b')
  | .d (.pair a b) x, .fst :: p, v => (upd (.d a x.1) p v).bind fun a' => .ok (mkPr a' (.d b x.2))
  | .d (.pair a b) x, .snd :: p, v => (upd (.d b x.2) p v).bind fun b' => .ok (mkPr (.d a x.1) b')
  | .d (.arr n t) l, .idx i :: p, v => .chk (decide (i < (l : List t.den).length)) ((upd (.d t (nth t l i)) p v).bind fun
      | .d t' y => (Out.opt (castTy t' t y)).bind fun y => .ok (.d (.arr n t) ((l : List t.den).set i y))
      | _ => .fail)
  | .vec e t l, .idx i :: p, v => .chk (decide (i < l.length)) ((upd (.d t (nth t l i)) p v).bind fun
      | .d t' y => (Out.opt (castTy t' t y)).bind fun y => .ok (.vec e t (l.set i y))
      | _ => .fail)
  | _, _ :: _, _ => .fail

/-- What a slice of an object's row holds: the element's type, the row, the row's place in cells. -/
def AS.row (s : AS) (id : Id) (ver : Nat) (p : List Stp) : Out (Nat × (t : Ty) × List t.den) :=
  match s.obj id with
  | some (v, _, c) => .guard (v == ver) ((loc c p).bind fun
    | (n, .d (.arr _ t) l) => .ok (n, ⟨t, l⟩)
    | (n, .vec _ t l) => .ok (n, ⟨t, l⟩)
    | _ => .fail)
  | none => .fail

def cut {α : Type} (l : List α) (i len : Nat) : List α := (l.drop i).take len

/-- A value as pure data of a type. -/
def AS.toTy (s : AS) : (t : Ty) → AVal → Out t.den
  | t, .d t' x => Out.opt (castTy t' t x)
  | .slice _, .nils => .ok []
  | .slice t, .sref id ver p c i len => (s.row id ver p).bind fun r => .chk (decide (r.1 + i * r.2.1.size = c ∧ i + len ≤ r.2.2.length)) (Out.opt (castTy (.slice r.2.1) (.slice t) (cut r.2.2 i len)))
  | .pair a b, .pr x y => (s.toTy a x).bind fun x => (s.toTy b y).bind fun y => .ok (x, y)
  | _, _ => .fail

/-- The objects that data taken out of a value share. -/
def AVal.shared : AVal → List Id
  | .sref id _ _ _ _ _ => [id]
  | .pr a b => a.shared ++ b.shared
  | _ => []

def AS.freeze (s : AS) (id : Id) : AS :=
  match s.ent id with
  | some (.obj v _ c) => s.setEnt id (.obj v true c)
  | _ => s

def AS.freezeAll (s : AS) : List Id → AS
  | [] => s
  | id :: ids => (s.freeze id).freezeAll ids

end Go.Ab
