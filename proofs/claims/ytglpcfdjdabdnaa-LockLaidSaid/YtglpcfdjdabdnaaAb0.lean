/-
  The abstract machine, a part.
-/
import Derived.WalkKit
import Derived.KernelRfl

/-
  An abstract machine for the model's code: slots hold typed pure data, boxes and own slices are objects. Definitions only.
-/
namespace Go.Ab

/-! ### Types and data -/

inductive Ty where
  | int (k : IntKind) | bool | str | slice (t : Ty) | unit | pair (a b : Ty) | arr (n : Nat) (t : Ty)
  deriving DecidableEq, Inhabited

@[reducible] def Ty.den : Ty → Type
  | .int _ => Int
  | .bool => Bool
  | .str => ByteArray
  | .slice t => List t.den
  | .unit => Unit
  | .pair a b => a.den × b.den
  | .arr _ t => List t.den

def Ty.size : Ty → Nat
  | .unit => 0
  | .pair a b => a.size + b.size
  | .arr n t => n * t.size
  | .int _ | .bool | .str | .slice _ => 1

def Ty.agg : Ty → Bool
  | .unit | .pair _ _ | .arr _ _ => true
  | .int _ | .bool | .str | .slice _ => false

def Ty.zero : (t : Ty) → t.den
  | .int _ => (0 : Int)
  | .bool => false
  | .str => ByteArray.empty
  | .slice _ => []
  | .unit => ()
  | .pair a b => (a.zero, b.zero)
  | .arr n t => List.replicate n t.zero

/-- Whether values of the type can be compared. -/
def Ty.comp : Ty → Bool
  | .slice _ => false
  | .pair a b => a.comp && b.comp
  | .arr _ t => t.comp
  | .int _ | .bool | .str | .unit => true

def listBeq {α : Type} (f : α → α → Bool) : List α → List α → Bool
  | [], [] => true
  | x :: xs, y :: ys => f x y && listBeq f xs ys
  | _, _ => false

def Ty.beq : (t : Ty) → t.den → t.den → Bool
  | .int _, x, y => (x : Int) == y
  | .bool, x, y => (x : Bool) == y
  | .str, x, y => (x : ByteArray).toList == (y : ByteArray).toList
  | .slice t, x, y => listBeq t.beq x y
  | .unit, _, _ => true
  | .pair a b, x, y => a.beq x.1 y.1 && b.beq x.2 y.2
  | .arr _ t, x, y => listBeq t.beq x y

def castTy (t t' : Ty) (x : t.den) : Option t'.den := if h : t = t' then some (h ▸ x) else none

def nth (t : Ty) (l : List t.den) (i : Nat) : t.den := l.getD i t.zero

/-! ### Abstract values -/

inductive Id where
  | old (k : Nat)
  | new (site j : Nat)
  deriving DecidableEq, Inhabited

inductive Stp where
  | fst | snd
  | idx (i : Nat)
  /-- The array itself, as a row. -/
  | arr

inductive AVal where
  | undef
  | gone
  | nils | nilp | nilf | nilm
  | d (t : Ty) (x : t.den)
  | pr (a b : AVal)
  | ptr (id : Id) (ver : Nat) (p : List Stp) (n : Nat)
  | rptr (t : Ty) (x : t.den)
  | sref (id : Id) (ver : Nat) (p : List Stp) (c i len : Nat)
  | fn (f : FuncId) (caps : AVal)
  | cons (a b : AVal)
  | nil
  | vec (e : TypeId) (t : Ty) (l : List t.den)
  /-- Bytes out of a text: their block bears a mark. -/
  | sb (l : List Int)
  /-- A box whose type is known. -/
  | bx (e : TypeId) (c : AVal)

inductive Ent where
  | dead
  | obj (ver : Nat) (fr : Bool) (c : AVal)

structure AS where
  slots : List AVal
  olds : List Ent
  news : List (List Ent)

/-- Runs of slots that hold nothing, and of sites that made nothing. -/
def undN (n : Nat) (l : List AVal) : List AVal := List.replicate n .undef ++ l
def nilN (n : Nat) (l : List (List Ent)) : List (List Ent) := List.replicate n [] ++ l

/-! ### Outcomes -/

inductive Out (α : Type) : Type 1 where
  | ok (a : α)
  | fail
  | chk (c : Bool) (r : Out α)
  | get {β : Type} (x : Option β) (f : β → Out α)
  | br (c : Bool) (a b : Out α)

def Out.eval {α : Type} : Out α → Option α
  | .ok a => some a
  | .fail => none
  | .chk c r => match c with | true => r.eval | false => none
  | .get x f => match x with | some y => (f y).eval | none => none
  | .br c a b => match c with | true => a.eval | false => b.eval

def sel {α : Type} (c : Bool) (x y : Option α) : Option α := match c with | true => x | false => y
def obind {α β : Type} (x : Option α) (f : α → Option β) : Option β := match x with | some a => f a | none => none

def Out.run {α R : Type} : Out α → (α → Option R) → Option R
  | .ok a, k => k a
  | .fail, _ => none
  | .chk c r, k => sel c (r.run k) none
  | .get x f, k => obind x fun y => (f y).run k
  | .br c a b, k => sel c (a.run k) (b.run k)

def Out.bind {α β : Type} : Out α → (α → Out β) → Out β
  | .ok a, f => f a
  | .fail, _ => .fail
  | .chk c r, f => .chk c (r.bind f)
  | .get x g, f => .get x fun y => (g y).bind f
  | .br c a b, f => .br c (a.bind f) (b.bind f)

def Out.opt {α : Type} : Option α → Out α
  | some a => .ok a
  | none => .fail

/-- A test whose outcome is looked at as the machine runs: where it is a literal nothing is left of it. -/
def Out.guard {α : Type} (c : Bool) (r : Out α) : Out α := match c with | true => r | false => .fail

/-! ### Small functions on values -/

def AVal.size : AVal → Nat
  | .d t _ => t.size
  | .pr a b => a.size + b.size
  | _ => 1

def AVal.agg : AVal → Bool
  | .d t _ => t.agg
  | .pr _ _ => true
  | _ => false

/-- May it lie in cells? -/
def AVal.celled : AVal → Bool
  | .undef | .cons _ _ | .nil | .vec .. | .bx .. => false
  | _ => true

/-- What lies in a box. -/
def AVal.strip : AVal → AVal
  | .bx _ c => c
  | c => c
def AVal.wrap : AVal → AVal → AVal
  | .bx e _, c => .bx e c
  | _, c => c

def mkPr : AVal → AVal → AVal
  | .d a x, .d b y => .d (.pair a b) (x, y)
  | a, b => .pr a b

def ofConst : Value → AVal
  | .bool b => .d .bool b
  | .int k n => .d (.int k) n
  | .string s => .d .str s
  | .slice none 0 0 => .nils
  | .pointer none => .nilp
  | .nilFunc => .nilf
  | .map none => .nilm
  | _ => .undef

def AS.slot (s : AS) (i : Nat) : AVal := s.slots.getD i .undef

def AS.ev (s : AS) : Operand → AVal
  | .tmp t => s.slot t
  | .const v => ofConst v
  | .func f => .fn f .nil
  | .global _ => .undef

def AS.put (s : AS) (dst : Option Tmp) (v : AVal) : AS :=
  match dst with
  | some t => { s with slots := s.slots.set t v }
  | none => s

def AS.ent (s : AS) : Id → Option Ent
  | .old k => s.olds[k]?
  | .new i j => (s.news.getD i [])[j]?

def AS.setEnt (s : AS) (id : Id) (e : Ent) : AS :=
  match id with
  | .old k => { s with olds := s.olds.set k e }
  | .new i j => { s with news := s.news.set i ((s.news.getD i []).set j e) }

/-- Is there room for objects of this site: has it made none? -/
def AS.virgin (s : AS) (i : Nat) : Bool := match s.news[i]? with | some [] => true | _ => false

def AS.born (s : AS) (i : Nat) (es : List Ent) : AS := { s with news := s.news.set i es }

def AS.obj (s : AS) (id : Id) : Option (Nat × Bool × AVal) :=
  match s.ent id with
  | some (.obj v f c) => some (v, f, c)
  | _ => none

/-! ### Types of the program -/

def tyOf (P : Program) : Nat → TypeId → Option Ty
  | 0, _ => none
  | n + 1, T =>
    match P.underlying T with
    | some (.int k) => some (.int k)
    | some .bool => some .bool
    | some .string => some .str
    | some (.slice e) => match tyOf P n e with | some t => some (.slice t) | none => none
    | some (.array k e) => match tyOf P n e with | some t => some (.arr k t) | none => none
    | some (.struct fs) => fs.toList.foldr (fun f acc => match tyOf P n f.type, acc with | some a, some b => some (.pair a b) | _, _ => none) (some .unit)
    | _ => none

def zeroOf (P : Program) : Nat → TypeId → Option AVal
  | 0, _ => none
  | n + 1, T =>
    match P.underlying T with
    | some (.int k) => some (.d (.int k) (0 : Int))
    | some .bool => some (.d .bool false)
    | some .string => some (.d .str ByteArray.empty)
    | some (.slice _) => some .nils
    | some (.pointer _) => some .nilp
    | some (.map _ _) => some .nilm
    | some (.func _ _ _) => some .nilf
    | some (.array k e) => match tyOf P n e with | some t => some (.d (.arr k t) (List.replicate k t.zero)) | none => none
    | some (.struct fs) => fs.toList.foldr (fun f acc => match zeroOf P n f.type, acc with | some a, some b => some (mkPr a b) | _, _ => none) (some (.d .unit ()))
    | _ => none

def depth : Nat := 12

/-- Does a value of this type take as many cells, and is it made of parts as the type is? -/
def fits (P : Program) (T : TypeId) (v : AVal) : Bool :=
  v.celled && (P.cellsOf T == v.size) &&
  (match P.underlying T with | some (.struct _) => v.agg | some (.array _ _) => v.agg | some _ => !v.agg | none => false)

def fieldPath : Nat → List Stp
  | 0 => [.fst]
  | n + 1 => .snd :: fieldPath n

/-! ### Looking into contents -/

def loc : AVal → List Stp → Out (Nat × AVal)
  | c, [] => .ok (0, c)
  | c, .arr :: p => loc c p
  | .pr a _, .fst :: p => loc a p
  | .pr a b, .snd :: p => (loc b p).bind fun (n, v) => .ok (a.size + n, v)
  | .d (.pair a _) x, .fst :: p => loc (.d a x.1) p
  | .d (.pair a b) x, .snd :: p => (loc (.d b x.2) p).bind fun (n, v) => .ok (a.size + n, v)
  | .d (.arr _ t) l, .idx i :: p => .chk (decide (i < (l : List t.den).length)) ((loc (.d t (nth t l i)) p).bind fun (n, v) => .ok (i * t.size + n, v))
  | .vec _ t l, .idx i :: p => .chk (decide (i < l.length)) ((loc (.d t (nth t l i)) p).bind fun (n, v) => .ok (i * t.size + n, v))
  | _, _ :: _ => .fail

def upd : AVal → List Stp → AVal → Out AVal
  | c, .arr :: p, v => upd c p v
  | .vec .., [], _ => .fail
  | c, [], v => .guard (v.celled && (c.size == v.size)) (.ok v)
  | .pr a b, .fst :: p, v => (upd a p v).bind fun a' => .ok (mkPr a' b)
  | .pr a b, .snd :: p, v => (upd b p v).bind fun b' => .ok (mkPr a b')
  | .d (.pair a b) x, .fst :: p, v => (upd (.d a x.1) p v).bind fun a' => .ok (mkPr a' (.d b x.2))
  | .d (.pair a b) x, .snd :: p, v => (upd (.d b x.2) p v).bind fun b' => .ok (mkPr (.d a x.1) b')
  | .d (.arr n t) l, .idx i :: p, v => .chk (decide (i < (l : List t.den).length)) ((upd (.d t (nth t l i)) p v).bind fun
      | .d t' y => (Out.opt (castTy t' t y)).bind fun y => .ok (.d (.arr n t) ((l : List t.den).set i y))
      | _ => .fail)
  | .vec e t l, .idx i :: p, v => .chk (decide (i < l.length)) ((upd (.d t (nth t l i)) p v).bind fun
      | .d t' y => (Out.opt (castTy t' t y)).bind fun y => .ok (.vec e t (l.set i y))
      | _ => .fail)
  | _, _ :: _, _ => .fail

/-- What a slice of an object's row holds: the element's type, the row, the row's place in cells. -/
def AS.row (s : AS) (id : Id) (ver : Nat) (p : List Stp) : Out (Nat × (t : Ty) × List t.den) :=
  match s.obj id with
  | some (v, _, c) => .guard (v == ver) ((loc c.strip p).bind fun
    | (n, .d (.arr _ t) l) => .ok (n, ⟨t, l⟩)
    | (n, .vec _ t l) => .ok (n, ⟨t, l⟩)
    | _ => .fail)
  | none => .fail

def cut {α : Type} (l : List α) (i len : Nat) : List α := (l.drop i).take len

/-- A value as pure data of a type. -/
def AS.toTy (s : AS) : (t : Ty) → AVal → Out t.den
  | t, .d t' x => Out.opt (castTy t' t x)
  | .slice _, .nils => .ok []
  | .slice t, .sref id ver p c i len => (s.row id ver p).bind fun r => .chk (decide (r.1 + i * r.2.1.size = c ∧ i + len ≤ r.2.2.length)) (Out.opt (castTy (.slice r.2.1) (.slice t) (cut r.2.2 i len)))
  | .pair a b, .pr x y => (s.toTy a x).bind fun x => (s.toTy b y).bind fun y => .ok (x, y)
  | _, _ => .fail

/-- The objects that data taken out of a value share. -/
def AVal.shared : AVal → List Id
  | .sref id _ _ _ _ _ => [id]
  | .pr a b => a.shared ++ b.shared
  | _ => []

def AS.freeze (s : AS) (id : Id) : AS :=
  match s.ent id with
  | some (.obj v _ c) => s.setEnt id (.obj v true c)
  | _ => s

def AS.freezeAll (s : AS) : List Id → AS
  | [] => s
  | id :: ids => (s.freeze id).freezeAll ids

end Go.Ab

/-
  The abstract machine's operations and control. Definitions only.
-/
namespace Go.Ab

/-! ### Zero values, held against the program's -/

def eatL {α : Type} (f : α → List Value → Option (List Value)) : List α → List Value → Option (List Value)
  | [], cs => some cs
  | x :: xs, cs => match f x cs with | some r => eatL f xs r | none => none

def eatT : (t : Ty) → t.den → List Value → Option (List Value)
  | .int k, x, .int k' n :: r => match decide (k = k'), decide (n = (x : Int)) with | true, true => some r | _, _ => none
  | .bool, x, .bool b :: r => match decide (b = (x : Bool)) with | true => some r | false => none
  | .str, x, .string s :: r => match decide (s = (x : ByteArray)) with | true => some r | false => none
  | .slice _, [], .slice none 0 0 :: r => some r
  | .unit, _, r => some r
  | .pair a b, x, r => match eatT a x.1 r with | some r' => eatT b x.2 r' | none => none
  | .arr n t, l, r => match decide ((l : List t.den).length = n) with | true => eatL (eatT t) l r | false => none
  | _, _, _ => none

def eatA : AVal → List Value → Option (List Value)
  | .d t x, r => eatT t x r
  | .nils, .slice none 0 0 :: r => some r
  | .nilp, .pointer none :: r => some r
  | .nilf, .nilFunc :: r => some r
  | .nilm, .map none :: r => some r
  | .pr a b, r => match eatA a r with | some r' => eatA b r' | none => none
  | _, _ => none

def isAggV : Value → Bool | .agg _ => true | _ => false

def zchk (P : Program) (T : TypeId) (z : AVal) : Bool :=
  match P.info? T with
  | some i => match i.zero with
    | some zv => (match eatA z zv.cells.toList with | some [] => true | _ => false) && (isAggV zv == z.agg)
    | none => false
  | none => false

/-! ### Calls -/

structure GRes where
  val : AVal
  olds : List Ent
  news : List Ent

/-- What is known of a function: which arguments it takes as pure data, what it makes of them, how that lies in memory. -/
structure Entry where
  params : List (Option Ty)
  X : Type
  run : List AVal → List Ent → Option X
  out : List AVal → List Ent → X → GRes

/-- What is known of a function, by what it is handed. -/
abbrev Gam := FuncId → List AVal → Option Entry

def AVal.ids : AVal → List Id
  | .ptr id _ _ _ => [id]
  | .sref id _ _ _ _ _ => [id]
  | .pr a b => a.ids ++ b.ids
  | .cons a b => a.ids ++ b.ids
  | .fn _ c => c.ids
  | .bx _ c => c.ids
  | _ => []

def Ent.ids : Ent → List Id
  | .obj _ _ c => c.ids
  | .dead => []

def AS.reach (s : AS) : Nat → List Id → List Id → List Id
  | 0, _, acc => acc
  | _ + 1, [], acc => acc
  | n + 1, id :: todo, acc => if acc.contains id then s.reach n todo acc else s.reach n (((s.ent id).getD .dead).ids ++ todo) (acc ++ [id])

def idxOf (id : Id) : List Id → Option Nat
  | [] => none
  | x :: xs => if x = id then some 0 else (idxOf id xs).map (· + 1)

/-- Every reference by another name, or gone. -/
def AVal.ren (ρ : Id → Nat → Option (Id × Nat)) : AVal → AVal
  | .ptr id ver p n => match ρ id ver with | some r => .ptr r.1 r.2 p n | none => .gone
  | .sref id ver p c i len => match ρ id ver with | some r => .sref r.1 r.2 p c i len | none => .gone
  | .pr a b => .pr (a.ren ρ) (b.ren ρ)
  | .cons a b => .cons (a.ren ρ) (b.ren ρ)
  | .fn f c => .fn f (c.ren ρ)
  | .bx e c => .bx e (c.ren ρ)
  | v => v

/-- A reference into a caller's object, as the callee sees it. -/
def AS.refIn (s : AS) (ids : List Id) (id : Id) (ver : Nat) : Option (Id × Nat) :=
  match idxOf id ids, s.obj id with
  | some k, some (v, _, _) => if v = ver then some (.old k, 0) else none
  | _, _ => none

def AS.entIn (s : AS) (ids : List Id) (id : Id) : Ent :=
  match s.ent id with
  | some (.obj _ fr c) => .obj 0 fr (c.ren (s.refIn ids))
  | _ => .dead

def AS.verOf (s : AS) (id : Id) : Nat := match s.obj id with | some (v, _, _) => v | none => 0

def idOut (ids : List Id) (dst : Nat) : Id → Id
  | .old k => ids.getD k (.old 0)
  | .new _ j => .new dst j

/-- A reference that a callee hands back, as the caller sees it. -/
def AS.refOut (s : AS) (ids : List Id) (dst : Nat) : Id → Nat → Option (Id × Nat)
  | .old k, v => match ids[k]? with | some id => some (id, s.verOf id + v) | none => none
  | .new _ j, v => some (.new dst j, v)

def AS.entOut (s : AS) (ids : List Id) (dst : Nat) (ver : Nat) : Ent → Ent
  | .obj v fr c => .obj (ver + v) fr (c.ren (s.refOut ids dst))
  | .dead => .dead

/-- Every reference to an object that is there, or to one of the ids. -/
def AS.conv (s : AS) : List (Option Ty) → List AVal → Out (List AVal × List Id)
  | [], [] => .ok ([], [])
  | some t :: ps, v :: vs => (s.toTy t v).bind fun x => (s.conv ps vs).bind fun r => .ok (.d t x :: r.1, v.shared ++ r.2)
  | none :: ps, v :: vs => (s.conv ps vs).bind fun r => .ok (v :: r.1, r.2)
  | _, _ => .fail

def AS.setEnts (s0 : AS) (all : List Id) (dst : Nat) (s : AS) : List Id → List Ent → AS
  | id :: ids, e :: es => AS.setEnts s0 all dst (s.setEnt id (s0.entOut all dst (s0.verOf id) e)) ids es
  | _, _ => s

def AVal.list : AVal → List AVal
  | .cons a b => a :: b.list
  | _ => []

def AS.made (s : AS) (ids : List Id) (t : Nat) : List Ent → AS
  | [] => s
  | e :: es => s.born t ((e :: es).map (s.entOut ids t 0))

/-- What is left of a state by a call. -/
def AS.back (s : AS) (ids : List Id) (dst : Option Tmp) (g : GRes) : Out AS :=
  match dst with
  | some t => .guard ((g.olds.length == ids.length) && (g.news.isEmpty || s.virgin t))
      (.ok ((AS.setEnts s ids t (s.made ids t g.news) ids g.olds).put dst (g.val.ren (s.refOut ids t))))
  | none => .guard ((g.olds.length == ids.length) && g.news.isEmpty) (.ok (AS.setEnts s ids 0 s ids g.olds))

def AS.lends (s : AS) (vs : List AVal) : List Id := s.reach 64 (vs.flatMap AVal.ids) []

def AS.enter (s : AS) (en : Entry) (dst : Option Tmp) (ids : List Id) (vs : List AVal) : Out AS :=
  .guard (ids.all fun id => (s.obj id).isSome)
    (.get (en.run (vs.map (AVal.ren (s.refIn ids))) (ids.map (s.entIn ids))) fun x => s.back ids dst (en.out (vs.map (AVal.ren (s.refIn ids))) (ids.map (s.entIn ids)) x))

def AS.call (s : AS) (en : Entry) (dst : Option Tmp) (vs : List AVal) : Out AS :=
  (s.conv en.params vs).bind fun r => (s.freezeAll r.2).enter en dst ((s.freezeAll r.2).lends r.1) r.1

/-! ### Operations -/

def bitop (op : BinOp) (k : IntKind) (x y : Int) : Int :=
  match op with
  | .and => k.wrap ((BitVec.ofInt k.bits x &&& BitVec.ofInt k.bits y).toNat)
  | .or => k.wrap ((BitVec.ofInt k.bits x ||| BitVec.ofInt k.bits y).toNat)
  | .xor => k.wrap ((BitVec.ofInt k.bits x ^^^ BitVec.ofInt k.bits y).toNat)
  | _ => k.wrap ((BitVec.ofInt k.bits x &&& ~~~BitVec.ofInt k.bits y).toNat)

def intOp (op : BinOp) (k : IntKind) (x : Int) (k' : IntKind) (y : Int) : Out AVal :=
  match op with
  | .shl => .chk (decide (0 ≤ y)) (.ok (.d (.int k) (k.wrap (x * 2 ^ (min y.toNat k.bits)))))
  | .shr => .chk (decide (0 ≤ y)) (.ok (.d (.int k) (x.fdiv (2 ^ (min y.toNat k.bits)))))
  | _ => .guard (decide (k = k')) (match op with
    | .add => .ok (.d (.int k) (k.wrap (x + y)))
    | .sub => .ok (.d (.int k) (k.wrap (x - y)))
    | .mul => .ok (.d (.int k) (k.wrap (x * y)))
    | .quo => .chk (!(decide (y = 0))) (.ok (.d (.int k) (k.wrap (x.tdiv y))))
    | .rem => .chk (!(decide (y = 0))) (.ok (.d (.int k) (x.tmod y)))
    | .eql => .ok (.d .bool (x == y))
    | .neq => .ok (.d .bool (x != y))
    | .lss => .ok (.d .bool (decide (x < y)))
    | .leq => .ok (.d .bool (decide (x ≤ y)))
    | .gtr => .ok (.d .bool (decide (x > y)))
    | .geq => .ok (.d .bool (decide (x ≥ y)))
    | op => .ok (.d (.int k) (bitop op k x y)))

def strOp (op : BinOp) (x y : ByteArray) : Out AVal :=
  match op with
  | .add => .chk (decide (((x.size + y.size : Nat) : Int) ≤ IntKind.i64.max)) (.ok (.d .str (x ++ y)))
  | .eql => .ok (.d .bool (x.toList == y.toList))
  | .neq => .ok (.d .bool (!(x.toList == y.toList)))
  | .lss => .ok (.d .bool (Op.bytesLess x.toList y.toList))
  | .geq => .ok (.d .bool (!(Op.bytesLess x.toList y.toList)))
  | _ => .fail

def isAggT (P : Program) (T : TypeId) (b : Bool) : Bool :=
  match P.underlying T with | some (.struct _) => b | some (.array _ _) => b | some _ => !b | none => false

def eqFs (P : Program) (chk : TypeId → Ty → Bool) : List Field → Ty → Nat → Bool
  | [], .unit, _ => true
  | f :: fs, .pair a b, off => !(f.name == "_") && (f.offset == off) && !(a.size == 0) && (P.cellsOf f.type == a.size) && isAggT P f.type a.agg && chk f.type a && eqFs P chk fs b (off + a.size)
  | _, _, _ => false

/-- Does '==' of the type go by the data's own? -/
def eqChk (P : Program) : Nat → TypeId → Ty → Bool
  | 0, _, _ => false
  | n + 1, T, t => match P.underlying T, t with
    | some (.int _), .int _ => true
    | some .bool, .bool => true
    | some .string, .str => true
    | some (.array m e), .arr m' t' => (m == m') && !(t'.size == 0) && (P.cellsOf e == t'.size) && isAggT P e t'.agg && eqChk P n e t'
    | some (.struct fs), t => !P.stoodInHeld T && eqFs P (eqChk P n) fs.toList t 0
    | _, _ => false

/-- '==' of two values that are no numbers and no strings. -/
def eqOp (P : Program) (T : TypeId) : AVal → AVal → Out Bool
  | .d t x, .d t' y => (Out.opt (castTy t' t y)).bind fun y => .guard ((t.agg && !P.eqGuardType P.depth T || decide (t = .bool)) && eqChk P depth T t) (.ok (t.beq x y))
  | .nils, .nils => .guard (isSl P T) (.ok true)
  | .d (.slice t) l, .nils => .guard (isSl P T) (.chk (decide (0 < (l : List t.den).length)) (.ok false))
  | .nils, .d (.slice t) l => .guard (isSl P T) (.chk (decide (0 < (l : List t.den).length)) (.ok false))
  | .sref _ _ _ _ _ len, .nils => .guard (isSl P T) (.chk (decide (0 < len)) (.ok false))
  | .nils, .sref _ _ _ _ _ len => .guard (isSl P T) (.chk (decide (0 < len)) (.ok false))
  | .nilp, .nilp => .guard (isPt P T) (.ok true)
  | .ptr .., .nilp => .guard (isPt P T) (.ok false)
  | .nilp, .ptr .. => .guard (isPt P T) (.ok false)
  | .nilf, .nilf => .guard (isFn P T) (.ok true)
  | .fn .., .nilf => .guard (isFn P T) (.ok false)
  | .nilf, .fn .. => .guard (isFn P T) (.ok false)
  | _, _ => .fail
where
  isSl (P : Program) (T : TypeId) : Bool := match P.underlying T with | some (.slice _) => true | _ => false
  isPt (P : Program) (T : TypeId) : Bool := match P.underlying T with | some (.pointer _) => true | _ => false
  isFn (P : Program) (T : TypeId) : Bool := match P.underlying T with | some (.func _ _ _) => true | _ => false

def binA (P : Program) (T : TypeId) (op : BinOp) (x y : AVal) : Out AVal :=
  match x, y with
  | .d (.int k) a, .d (.int k') b => intOp op k a k' b
  | .d .str a, .d .str b => strOp op a b
  | x, y => match op with
    | .eql => (eqOp P T x y).bind fun b => .ok (.d .bool b)
    | .neq => (eqOp P T x y).bind fun b => .ok (.d .bool (!b))
    | _ => .fail

def unA (op : UnOp) (x : AVal) : Out AVal :=
  match op, x with
  | .not, .d .bool b => .ok (.d .bool (!b))
  | .neg, .d (.int k) n => .ok (.d (.int k) (k.wrap (0 - n)))
  | .xor, .d (.int k) n => .ok (.d (.int k) (bitop .xor k (if k.signed then -1 else k.max) n))
  | _, _ => .fail

def bytesOfStr (s : ByteArray) : List Int := s.data.toList.map fun b => (b.toNat : Int)
def strOfBytes (l : List Int) : ByteArray := ⟨(l.map fun n => UInt8.ofNat n.toNat).toArray⟩

/-- Data that is only looked at now. -/
def AS.peek (s : AS) (t : Ty) (v : AVal) : Out t.den := s.toTy t v

def convB (P : Program) (s : AS) (obj : Bool) (src dst : TypeId) (x : AVal) : Out AVal :=
  match x, P.underlying dst, P.underlying src with
  | .d (.int _) n, some (.int k), some _ => .ok (.d (.int k) (k.wrap n))
  | .d .str a, some .string, some _ => .ok (.d .str a)
  | .d .str a, some (.slice e), some _ => match P.underlying e with
    | some (.int .u8) => match obj with | true => .ok (.sb (bytesOfStr a)) | false => .ok (.d (.slice (.int .u8)) (bytesOfStr a))
    | _ => .fail
  | x, some .string, some (.slice e) => match P.underlying e with
    | some (.int .u8) => (s.peek (.slice (.int .u8)) x).bind fun l => .ok (.d .str (strOfBytes l))
    | _ => .fail
  | _, _, _ => .fail

def convS (P : Program) (src dst : TypeId) (l : List Int) : Out AVal :=
  match P.underlying dst, P.underlying src with
  | some (.slice e), some (.slice _) => match P.underlying e with
    | some (.int .u8) => .guard (src == dst) (.ok (.d (.slice (.int .u8)) l))
    | _ => .fail
  | _, _ => .fail

def convA (P : Program) (s : AS) (obj : Bool) (src dst : TypeId) (x : AVal) : Out AVal :=
  match x with
  | .sb l => convS P src dst l
  | x => convB P s obj src dst x

/-- A row of bytes of one's own, that is told to be a text's. -/
def convK (P : Program) (s : AS) (d : Option Tmp) (src dst : TypeId) (id : Id) (ver len : Nat) : Out AS :=
  match s.obj id, P.underlying dst with
  | some (v, false, .vec _ (.int .u8) l), some (.slice e) => match P.underlying e with
    | some (.int .u8) => .guard ((v == ver) && (src == dst)) (.chk (decide (0 < len ∧ len = (l : List Int).length)) (.ok ((s.setEnt id .dead).put d (.d (.slice (.int .u8)) l))))
    | _ => .fail
  | _, _ => .fail

/-- A pointer as one of no type, and back. -/
def convP (P : Program) (s : AS) (src dst : TypeId) (id : Id) (ver : Nat) : Out AVal :=
  match s.obj id with
  | some (v, _, .bx e c) => match P.underlying src, P.underlying dst with
    | some (.pointer t), some .unsafePointer => .guard ((v == ver) && !(P.cellsOf t == 0) && !(c.size == 0)) (.ok (.ptr id ver [] 0))
    | some .unsafePointer, some (.pointer u) => .guard ((v == ver) && !(P.cellsOf u == 0) && liesAt P P.depth e (c.size / P.cellsOf e) 0 u 1) (.ok (.ptr id ver [] 0))
    | _, _ => .fail
  | _ => .fail

def ptOk (P : Program) (T : TypeId) : Bool := match P.underlying T with | some (.pointer u) => (P.info? u).isSome | _ => false
/-- Two pointers to one object. -/
def eqP (P : Program) (s : AS) (T : TypeId) (op : BinOp) (i : Id) (v : Nat) (j : Id) (w : Nat) : Out AVal :=
  match s.obj i with
  | some (v', _, _) => .guard (decide (i = j) && (v == w) && (v == v') && ptOk P T) (match op with | .eql => .ok (.d .bool true) | .neq => .ok (.d .bool false) | _ => .fail)
  | none => .fail

/-- The bytes of a row as a text: nobody writes the row from then on. -/
def textA (P : Program) (s : AS) (d : Option Tmp) (T : TypeId) (id : Id) (ver : Nat) (n : Int) : Out AS :=
  match s.obj id, P.underlying T with
  | some (v, false, .vec e (.int .u8) l), some (.pointer u) => .guard ((v == ver) && (u == e) && (P.cellsOf e == 1))
      (.chk (decide (0 < n ∧ n ≤ ((l : List Int).length : Int))) (.ok ((s.setEnt id .dead).put d (.d .str (strOfBytes ((l : List Int).take n.toNat))))))
  | _, _ => .fail

def asInt : AVal → Out Int
  | .d (.int _) n => .ok n
  | _ => .fail

/-- A slice expression's bounds over n elements. -/
def bounds (s : AS) (n : Nat) (lo hi : Option Operand) : Out (Nat × Nat) :=
  (match hi with
    | some h => (asInt (s.ev h)).bind fun h => .chk (decide (0 ≤ h ∧ h ≤ (n : Int))) (.ok h.toNat)
    | none => .ok n).bind fun h =>
  (match lo with
    | some l => (asInt (s.ev l)).bind fun l => .chk (decide (0 ≤ l ∧ l ≤ (h : Int))) (.ok l.toNat)
    | none => .ok 0).bind fun l => .ok (l, h)

def elemSize (P : Program) (T : TypeId) : Option Nat :=
  match P.underlying T with
  | some (.array _ e) => match P.cellsOf e with | 0 => none | z + 1 => some (z + 1)
  | some (.slice e) => match P.cellsOf e with | 0 => none | z + 1 => some (z + 1)
  | _ => none

def isArr (P : Program) (T : TypeId) : Option Nat :=
  match P.underlying T with
  | some (.array n _) => some n
  | _ => none

def sliceA (P : Program) (s : AS) (T : TypeId) (x : AVal) (lo hi : Option Operand) : Out AVal :=
  match x with
  | .d .str a => .guard (match P.underlying T with | some .string => true | _ => false) ((bounds s a.size lo hi).bind fun b => .ok (.d .str (a.extract b.1 b.2)))
  | .d (.slice t) l => .guard (match elemSize P T, isArr P T with | some z, none => z == t.size | _, _ => false)
      ((bounds s (l : List t.den).length lo hi).bind fun b => .ok (.d (.slice t) (cut l b.1 (b.2 - b.1))))
  | .nils => .guard (match elemSize P T, isArr P T with | some _, none => true | _, _ => false) ((bounds s 0 lo hi).bind fun _ => .ok .nils)
  | .sref id ver p c i len => (s.row id ver p).bind fun r => .guard (match elemSize P T, isArr P T with | some z, none => z == r.2.1.size | _, _ => false)
      ((bounds s len lo hi).bind fun b => .ok (.sref id ver p (c + b.1 * r.2.1.size) (i + b.1) (b.2 - b.1)))
  | .ptr id ver p n => (s.row id ver p).bind fun r => .guard (match elemSize P T, isArr P T with | some z, some _ => z == r.2.1.size | _, _ => false)
      (.chk (decide (isArr P T = some r.2.2.length ∧ r.1 = n)) ((bounds s ((isArr P T).getD 0) lo hi).bind fun b => .ok (.sref id ver (p ++ [.arr]) (n + b.1 * r.2.1.size) b.1 (b.2 - b.1))))
  | .rptr (.arr n t) l => .guard (match elemSize P T, isArr P T with | some z, some m => (z == t.size) && (m == n) | _, _ => false)
      ((bounds s n lo hi).bind fun b => .ok (.d (.slice t) (cut l b.1 (b.2 - b.1))))
  | _ => .fail

def indexAddrA (P : Program) (s : AS) (T : TypeId) (x : AVal) (i : Int) : Out AVal :=
  match x with
  | .d (.slice t) l => .guard (match elemSize P T, isArr P T with | some z, none => z == t.size | _, _ => false)
      (.chk (decide (0 ≤ i ∧ i < ((l : List t.den).length : Int))) (.ok (.rptr t (nth t l i.toNat))))
  | .rptr (.arr n t) l => .guard (match elemSize P T, isArr P T with | some z, some m => (z == t.size) && (m == n) | _, _ => false)
      (.chk (decide (0 ≤ i ∧ i < (n : Int))) (.ok (.rptr t (nth t l i.toNat))))
  | .sref id ver p c j len => (s.row id ver p).bind fun r => .guard (match elemSize P T, isArr P T with | some z, none => z == r.2.1.size | _, _ => false)
      (.chk (decide (0 ≤ i ∧ i < (len : Int))) (.ok (.ptr id ver (p ++ [.idx (j + i.toNat)]) (c + i.toNat * r.2.1.size))))
  | .ptr id ver p n => .guard (match elemSize P T, isArr P T with | some _, some _ => true | _, _ => false)
      (.chk (decide (0 ≤ i ∧ i < (((isArr P T).getD 0 : Nat) : Int))) (.ok (.ptr id ver (p ++ [.idx i.toNat]) (n + i.toNat * (elemSize P T).getD 0))))
  | _ => .fail

def fieldInfo (P : Program) (T : TypeId) (f : Nat) : Option (Nat × TypeId) :=
  match P.underlying T with
  | some (.struct fs) => match fs[f]? with | some x => some (x.offset, x.type) | none => none
  | _ => none

/-- A part of a struct: where it lies, and what it is. -/
def partOf : AVal → Nat → Option (Nat × AVal)
  | .d (.pair a _) x, 0 => some (0, .d a x.1)
  | .d (.pair a b) x, n + 1 => match partOf (.d b x.2) n with | some (o, v) => some (a.size + o, v) | none => none
  | .pr a _, 0 => some (0, a)
  | .pr a b, n + 1 => match partOf b n with | some (o, v) => some (a.size + o, v) | none => none
  | _, _ => none

def fieldAddrA (P : Program) (T : TypeId) (x : AVal) (f : Nat) : Out AVal :=
  match fieldInfo P T f with
  | some (o, ft) => .guard (!(P.cellsOf ft == 0)) (match x with
    | .ptr id ver p n => .ok (.ptr id ver (p ++ fieldPath f) (n + o))
    | .rptr t x => match partOf (.d t x) f with
      | some (o', .d t' y) => .guard (o == o') (.ok (.rptr t' y))
      | _ => .fail
    | _ => .fail)
  | none => .fail

def fieldA (P : Program) (T : TypeId) (x : AVal) (f : Nat) : Out AVal :=
  match fieldInfo P T f, partOf x f with
  | some (o, ft), some (o', v) => .guard ((o == o') && fits P ft v) (.ok v)
  | _, _ => .fail

def indexA (P : Program) (T : TypeId) (x : AVal) (i : Int) : Out AVal :=
  match x, P.underlying T with
  | .d (.arr n t) l, some (.array m e) => .guard ((n == m) && fits P e (.d t t.zero)) (.chk (decide (0 ≤ i ∧ i < (n : Int))) (.ok (.d t (nth t l i.toNat))))
  | .d .str a, some .string => .chk (decide (0 ≤ i ∧ i < (a.size : Int))) (.ok (.d (.int .u8) ((a.data.toList.getD i.toNat 0).toNat : Int)))
  | _, _ => .fail

def loadA (P : Program) (s : AS) (T : TypeId) (x : AVal) : Out AVal :=
  match x with
  | .ptr id ver p n => match s.obj id with
    | some (v, _, c) => .guard (v == ver) ((loc c.strip p).bind fun r => .guard (fits P T r.2) (.chk (decide (r.1 = n)) (.ok r.2)))
    | none => .fail
  | .rptr t y => .guard (fits P T (.d t y)) (.ok (.d t y))
  | _ => .fail

def storeA (P : Program) (s : AS) (T : TypeId) (x v : AVal) : Out AS :=
  match x with
  | .ptr id ver p n => match s.obj id with
    | some (ve, fr, c) => .guard ((ve == ver) && !fr && fits P T v) ((loc c.strip p).bind fun r => .guard (fits P T r.2) (.chk (decide (r.1 = n)) ((upd c.strip p v).bind fun c' => .ok (s.setEnt id (.obj ve fr (c.wrap c'))))))
    | none => .fail
  | _ => .fail

def lenA (P : Program) (T : TypeId) (x : AVal) : Out AVal :=
  match P.underlying T, x with
  | some .string, .d .str a => .ok (.d (.int .i64) (a.size : Int))
  | some (.slice _), .d (.slice t) l => .ok (.d (.int .i64) ((l : List t.den).length : Int))
  | some (.slice _), .nils => .ok (.d (.int .i64) (0 : Int))
  | some (.slice _), .sref _ _ _ _ _ len => .ok (.d (.int .i64) (len : Int))
  | some (.array n _), _ => .ok (.d (.int .i64) (n : Int))
  | _, _ => .fail

/-- The elements that are put behind. -/
def moreA (P : Program) (s : AS) (t : Ty) (X : TypeId) (x : AVal) : Out (List t.den) :=
  match x with
  | .d .str a => match P.underlying X with
    | some .string => Out.opt (castTy (.slice (.int .u8)) (.slice t) (bytesOfStr a))
    | _ => .fail
  | x => match P.underlying X with
    | some (.slice _) => s.peek (.slice t) x
    | _ => .fail

def roomA (n b : Nat) : Bool := decide (n * b ≤ 140737488355328 ∧ n ≤ 9223372036854775807)

/-- What the program says of an element: its type, its size and its bytes, if they fit one another. -/
def elemOfT (P : Program) (T : TypeId) : Option (TypeId × Ty × Nat) :=
  match P.underlying T with
  | some (.slice e) => match tyOf P depth e with
    | some t => match (P.cellsOf e == t.size) && !(t.size == 0) && zchk P e (.d t t.zero) with | true => some (e, t, P.bytesOf e) | false => none
    | none => none
  | _ => none

/-- So many zeros behind nothing. -/
def growA (P : Program) (s : AS) (dst : Option Tmp) (T X : TypeId) (n : Int) : Out AS :=
  match elemOfT P T, dst, P.underlying X with
  | some (e, t, b), some q, some (.int _) => .guard (s.virgin q) (.chk (decide (0 < n) && roomA n.toNat b)
      (.ok ((s.born q [.obj 0 false (.vec e t (List.replicate n.toNat t.zero))]).put dst (.sref (.new q 0) 0 [] 0 0 n.toNat))))
  | _, _, _ => .fail

def minA (mx : Bool) : List AVal → Out AVal
  | [.d (.int k) x, .d (.int k') y] => .guard (decide (k = k')) (.ok (.d (.int k) (match mx with | true => (if x < y then y else x) | false => (if y < x then y else x))))
  | _ => .fail

def appendA (P : Program) (s : AS) (dst : Option Tmp) (T X : TypeId) (x y : AVal) : Out AS :=
  match elemOfT P T, dst with
  | some (e, t, b), some q => (moreA P s t X y).bind fun m =>
    match x with
    | .nils => .guard (s.virgin q) (.chk (roomA m.length b) (.ok ((s.born q [.obj 0 false (.vec e t m)]).put dst (.sref (.new q 0) 0 [] 0 0 m.length))))
    | .sref id ver [] 0 0 len => match s.obj id with
      | some (v, fr, .vec e' t' l) => .guard ((v == ver) && (e == e')) ((Out.opt (castTy (.slice t') (.slice t) l)).bind fun l =>
          .chk (decide (len ≤ l.length)) <| .chk ((!fr) || decide (len = l.length)) (.chk (roomA (len + m.length) b)
            (.ok ((s.setEnt id (.obj (v + 1) fr (.vec e t (l.take len ++ m)))).put dst (.sref id (v + 1) [] 0 0 (len + m.length))))))
      | _ => .fail
    | _ => .fail
  | _, _ => .fail

/-- Parts of an array, by their places. -/
def setParts (t : Ty) (s : AS) : List (Nat × Operand) → List t.den → Out (List t.den × List Id)
  | [], l => .ok (l, [])
  | (i, x) :: ps, l => .guard (decide (i < l.length)) ((s.toTy t (s.ev x)).bind fun y => (setParts t s ps (l.set i y)).bind fun r => .ok (r.1, (s.ev x).shared ++ r.2))

def setFields (P : Program) (fs : Array Field) (s : AS) : List (Nat × Operand) → AVal → Out AVal
  | [], v => .ok v
  | (i, x) :: ps, v => match fs[i]?, partOf v i with
    | some f, some (o, old) => .guard ((f.offset == o) && fits P f.type old && fits P f.type (s.ev x)) ((upd v (fieldPath i) (s.ev x)).bind fun v' => setFields P fs s ps v')
    | _, _ => .fail

def buildA (P : Program) (s : AS) (dst : Option Tmp) (T : TypeId) (parts : List (Nat × Operand)) : Out AS :=
  match P.underlying T with
  | some (.struct fs) => match zeroOf P depth T with
    | some z => .guard (zchk P T z && z.agg && fs.toList.all fun f => (P.info? f.type).isSome)
        ((setFields P fs s parts z).bind fun v => .ok (s.put dst v))
    | none => .fail
  | some (.array n e) => match tyOf P depth e with
    | some t => .guard ((P.cellsOf e == t.size) && zchk P T (.d (.arr n t) (List.replicate n t.zero))) ((setParts t s parts (List.replicate n t.zero)).bind fun r => .ok ((s.freezeAll r.2).put dst (.d (.arr n t) r.1)))
    | none => .fail
  | _ => .fail

def buildSliceA (P : Program) (s : AS) (obj : Bool) (dst : Option Tmp) (T : TypeId) (n : Nat) (parts : List (Nat × Operand)) : Out AS :=
  match elemOfT P T, dst with
  | some (e, t, _), some q => .guard (decide (n * t.size ≤ 16777216)) ((setParts t s parts (List.replicate n t.zero)).bind fun r =>
      match obj with
      | true => .guard (s.virgin q) (.ok (((s.freezeAll r.2).born q [.obj 0 false (.vec e t r.1)]).put dst (.sref (.new q 0) 0 [] 0 0 r.1.length)))
      | false => .ok ((s.freezeAll r.2).put dst (.d (.slice t) r.1)))
  | _, _ => .fail

def makeSliceA (P : Program) (s : AS) (dst : Option Tmp) (T : TypeId) (len cap : Int) : Out AS :=
  match elemOfT P T, dst with
  | some (e, t, b), some q => .guard (s.virgin q) (.chk (decide (0 ≤ len ∧ len ≤ cap) && roomA cap.toNat b)
      (.ok ((s.born q [.obj 0 false (.vec e t (List.replicate len.toNat t.zero))]).put dst (.sref (.new q 0) 0 [] 0 0 len.toNat))))
  | _, _ => .fail

/-- Has a struct a pointer to its like? Then its box's type is kept in mind. -/
def selfish (P : Program) (T : TypeId) : Bool :=
  match P.underlying T with
  | some (.struct fs) => fs.toList.any fun f => match P.underlying f.type with | some (.pointer u) => decide (u = T) | _ => false
  | _ => false
def boxed (P : Program) (T : TypeId) (z : AVal) : AVal := match selfish P T with | true => .bx T z | false => z

def boxA (P : Program) (s : AS) (obj : Bool) (dst : Option Tmp) (T : TypeId) (v : AVal) : Out AS :=
  match dst with
  | some q => match obj with
    | true => .guard (s.virgin q && fits P T v) (.ok ((s.born q [.obj 0 false v]).put dst (.ptr (.new q 0) 0 [] 0)))
    | false => match tyOf P depth T with
      | some t => .guard (fits P T (.d t t.zero)) ((s.toTy t v).bind fun x => .ok ((s.freezeAll v.shared).put dst (.rptr t x)))
      | none => .fail
  | none => .fail

def toArrA (P : Program) (s : AS) (dst : Option Tmp) (T : TypeId) (x : AVal) : Out AS :=
  match P.underlying T with
  | some (.array n e) => match tyOf P depth e with
    | some t => .guard ((P.cellsOf e == t.size) && !(n == 0) && !(t.size == 0)) ((s.toTy (.slice t) x).bind fun l => .chk (decide (n ≤ (l : List t.den).length)) (.ok ((s.freezeAll x.shared).put dst (.rptr (.arr n t) (l.take n)))))
    | none => .fail
  | _ => .fail

def capsOf (s : AS) : List Operand → AVal
  | [] => .nil
  | x :: xs => .cons (s.ev x) (capsOf s xs)

def celledList : AVal → Bool
  | .cons a b => a.celled && celledList b
  | .nil => true
  | _ => false

def pickA (c a b : AVal) : Out AVal :=
  match c with
  | .d .bool c => match a, b with
    | .d .bool x, .d .bool y => .ok (.d .bool (bif c then x else y))
    | a, b => .br c (.ok a) (.ok b)
  | _ => .fail

def isObj (objs : List Nat) : Option Tmp → Bool
  | some q => objs.any fun x => decide (x = q)
  | none => false

/-- One operation. 'objs': the sites whose boxes and slices are objects. -/
def aop (P : Program) (Γ : Gam) (objs : List Nat) (o : Oper) (s : AS) : Out AS :=
  match o.op with
  | .move x => .ok (s.put o.dst (s.ev x))
  | .assign x => .ok (s.put o.dst (s.ev x))
  | .pick c a b => (pickA (s.ev c) (s.ev a) (s.ev b)).bind fun v => .ok (s.put o.dst v)
  | .alloc T => match zeroOf P depth T, o.dst with
    | some z, some q => .guard (s.virgin q && zchk P T z) (.ok ((s.born q [.obj 0 false (boxed P T z)]).put o.dst (.ptr (.new q 0) 0 [] 0)))
    | _, _ => .fail
  | .box T x => boxA P s (isObj objs o.dst) o.dst T (s.ev x)
  | .build T parts => buildA P s o.dst T parts.toList
  | .buildSlice T n parts => buildSliceA P s (isObj objs o.dst) o.dst T n parts.toList
  | .load T x => (loadA P s T (s.ev x)).bind fun v => .ok (s.put o.dst v)
  | .store T x v => (storeA P s T (s.ev x) (s.ev v)).bind fun s' => .ok (s'.put o.dst .undef)
  | .nilCheck x => match s.ev x with
    | .ptr id v p n => .ok (s.put o.dst (.ptr id v p n))
    | .rptr t y => .ok (s.put o.dst (.rptr t y))
    | .fn f c => .ok (s.put o.dst (.fn f c))
    | _ => .fail
  | .binOp op T x y _ => match s.ev x, s.ev y with
    | .ptr i v [] 0, .ptr j w [] 0 => (eqP P s T op i v j w).bind fun v => .ok (s.put o.dst v)
    | _, _ => (binA P T op (s.ev x) (s.ev y)).bind fun v => .ok (s.put o.dst v)
  | .unOp op _ x => (unA op (s.ev x)).bind fun v => .ok (s.put o.dst v)
  | .convert src dst x => match src == dst, s.ev x with
    | true, .sref id ver [] 0 0 len => convK P s o.dst src dst id ver len
    | _, .ptr id ver [] 0 => (convP P s src dst id ver).bind fun v => .ok (s.put o.dst v)
    | _, _ => (convA P s (isObj objs o.dst) src dst (s.ev x)).bind fun v => .ok (s.put o.dst v)
  | .sliceToArrayPointer T x => toArrA P s o.dst T (s.ev x)
  | .makeFunc (.func f) first caps => .guard (first.isEmpty && celledList (capsOf s caps.toList)) (.ok (s.put o.dst (.fn f (capsOf s caps.toList))))
  | .makeSlice T l c => (asInt (s.ev l)).bind fun l => (asInt (s.ev c)).bind fun c => makeSliceA P s o.dst T l c
  | .slice T x lo hi none => (sliceA P s T (s.ev x) lo hi).bind fun v => .ok (s.put o.dst v)
  | .fieldAddr T x f => (fieldAddrA P T (s.ev x) f).bind fun v => .ok (s.put o.dst v)
  | .field T x f => (fieldA P T (s.ev x) f).bind fun v => .ok (s.put o.dst v)
  | .indexAddr T x i => (asInt (s.ev i)).bind fun i => (indexAddrA P s T (s.ev x) i).bind fun v => .ok (s.put o.dst v)
  | .index T x i => (asInt (s.ev i)).bind fun i => (indexA P T (s.ev x) i).bind fun v => .ok (s.put o.dst v)
  | .extract x i => (Out.opt ((s.ev x).list[i]?)).bind fun v => .ok (s.put o.dst v)
  | .call c => match c.callee with
    | .builtin .len => match c.args.toList, c.argTypes.toList with
      | [x], [T] => (lenA P T (s.ev x)).bind fun v => .ok (s.put o.dst v)
      | _, _ => .fail
    | .builtin .append => match c.args.toList, c.argTypes.toList with
      | [x, y], [T, X] => match s.ev x, s.ev y with
        | .nils, .d (.int _) n => growA P s o.dst T X n
        | _, _ => appendA P s o.dst T X (s.ev x) (s.ev y)
      | _, _ => .fail
    | .builtin .cap => match c.args.toList, c.argTypes.toList with
      | [x], [T] => match s.ev x, P.underlying T with
        | .nils, some (.slice _) => .ok (s.put o.dst (.d (.int .i64) (0 : Int)))
        | _, _ => .fail
      | _, _ => .fail
    | .builtin .max => (minA true (c.args.toList.map s.ev)).bind fun v => .ok (s.put o.dst v)
    | .builtin .min => (minA false (c.args.toList.map s.ev)).bind fun v => .ok (s.put o.dst v)
    | .builtin .unsafeSliceData => match c.args.toList with
      | [x] => match s.ev x with
        | .sref id ver [] 0 0 len => .chk (decide (0 < len)) (.ok (s.put o.dst (.ptr id ver [.idx 0] 0)))
        | _ => .fail
      | _ => .fail
    | .builtin .unsafeString => match c.args.toList, c.argTypes.toList with
      | [x, y], [T, _] => match s.ev x, s.ev y with
        | .ptr id ver [.idx 0] 0, .d (.int .i64) n => textA P s o.dst T id ver n
        | _, _ => .fail
      | _, _ => .fail
    | .value f => match s.ev f with
      | .fn f caps => match Γ f (c.args.toList.map s.ev ++ caps.list) with
        | some en => s.call en o.dst (c.args.toList.map s.ev ++ caps.list)
        | none => .fail
      | _ => .fail
    | _ => .fail
  | _ => .fail

/-! ### Regions -/

/-- The slots that an operation looks at. -/
def opSlots (xs : Array Operand) : List Nat := xs.toList.filterMap fun | .tmp t => some t | _ => none

def guardSlot (ops : Array Oper) (o : Oper) : List Nat :=
  match o.guard with
  | some (j, _) => match (ops[j]?).bind (·.dst) with | some t => [t] | none => []
  | none => []

def gop {R : Type} (P : Program) (Γ : Gam) (objs : List Nat) (ops : Array Oper) (o : Oper) (s : AS) (k : AS → Option R) : Option R :=
  match o.guard with
  | none => (aop P Γ objs o s).run k
  | some (j, want) => match (ops[j]?).bind (·.dst) with
    | some q => match s.slot q with
      | .d .bool b => match want with
        | true => sel b ((aop P Γ objs o (s.put (some q) (.d .bool true))).run k) (k ((s.put (some q) (.d .bool false)).put o.dst .nil))
        | false => sel b (k ((s.put (some q) (.d .bool true)).put o.dst .nil)) ((aop P Γ objs o (s.put (some q) (.d .bool false))).run k)
      | .nil => k (s.put o.dst .nil)
      | _ => none
    | none => none

/-- Is a slice that is data held against nil: how long is it? -/
def nilArg (s : AS) (x y : Operand) : Option Nat :=
  match s.ev x, s.ev y with
  | .d (.slice t) l, .nils => some (l : List t.den).length
  | .nils, .d (.slice t) l => some (l : List t.den).length
  | _, _ => none

open Classical in
/-- Two ways, of which nobody knows which one is gone: what comes must be the same. -/
noncomputable def nd {R : Type} (x y : Option R) : Option R := if x = y then x else none

/-- One operation, in a region that goes in the order of its text: a test of data against nil may go both ways. -/
noncomputable def gopN {R : Type} (P : Program) (Γ : Gam) (objs : List Nat) (ops : Array Oper) (o : Oper) (s : AS) (k : AS → Option R) : Option R :=
  match o.guard, o.op with
  | none, .binOp .eql T x y _ => match nilArg s x y, eqOp.isSl P T with
    | some n, true => sel (decide (0 < n)) (k (s.put o.dst (.d .bool false))) (nd (k (s.put o.dst (.d .bool true))) (k (s.put o.dst (.d .bool false))))
    | _, _ => gop P Γ objs ops o s k
  | none, .binOp .neq T x y _ => match nilArg s x y, eqOp.isSl P T with
    | some n, true => sel (decide (0 < n)) (k (s.put o.dst (.d .bool true))) (nd (k (s.put o.dst (.d .bool true))) (k (s.put o.dst (.d .bool false))))
    | _, _ => gop P Γ objs ops o s k
  | _, _ => gop P Γ objs ops o s k

/-- A list, looked at to its end: for the kernel's sake. -/
noncomputable def seen {α R : Type} (l : List α) : (List α → R) → R := List.rec (motive := fun _ => (List α → R) → R) (fun k => k []) (fun x _ ih k => ih fun l' => k (x :: l')) l
theorem seen_eq {α R : Type} : ∀ (l : List α) (k : List α → R), seen l k = k l
  | [], _ => rfl
  | _ :: l, k => seen_eq l _
noncomputable def AS.seen {R : Type} (s : AS) (k : AS → R) : R := Go.Ab.seen s.slots fun l => k ⟨l, s.olds, s.news⟩
theorem AS.seen_eq {R : Type} (s : AS) (k : AS → R) : s.seen k = k s := Go.Ab.seen_eq _ _

noncomputable def gops {R : Type} (P : Program) (Γ : Gam) (objs : List Nat) (ops : Array Oper) : List Oper → AS → (AS → Option R) → Option R
  | [], s, k => k s
  | o :: l, s, k => gopN P Γ objs ops o s fun s' => s'.seen fun s' => gops P Γ objs ops l s' k

/-- Everything that stands before an operation, by the edges: a number, bit by bit. -/
def ancF (acc : List Nat) (o : Oper) : Nat := (o.after.toList.filter (Region.binds .any)).foldr (fun e m => Nat.lor (Nat.lor (Nat.pow 2 e.on) (acc.getD e.on 0)) m) 0
def ancs (ops : List Oper) : List Nat := ops.foldl (fun acc o => acc ++ [ancF acc o]) []

/-- What an operation looks at and what it writes. -/
structure Foot where
  dst : Option Tmp
  slots : List Nat
  rs : List Id
  ws : List Id

def opIds (s : AS) (o : Oper) : List Id := (opSlots o.op.operands).flatMap fun i => (s.slot i).ids

/-- The ids in arguments that are lent. -/
def lendIds : List (Option Ty) → List AVal → List Id
  | none :: ps, v :: vs => v.ids ++ lendIds ps vs
  | some _ :: ps, _ :: vs => lendIds ps vs
  | _, _ => []

def writes (Γ : Gam) (s : AS) (o : Oper) : List Id :=
  match o.op with
  | .store _ x _ => (s.ev x).ids
  | .convert src dst x => match src == dst with | true => (s.ev x).ids | false => []
  | .call c => match c.callee with
    | .builtin .append => match c.args.toList with | x :: _ => (s.ev x).ids | [] => []
    | .builtin .unsafeString => match c.args.toList with | x :: _ => (s.ev x).ids | [] => []
    | .value F => match s.ev F with
      | .fn f caps => match Γ f (c.args.toList.map s.ev ++ caps.list) with
        | some en => s.reach 64 (lendIds en.params (c.args.toList.map s.ev ++ caps.list)) []
        | none => []
      | _ => []
    | _ => []
  | _ => []

def foot (Γ : Gam) (ops : Array Oper) (s : AS) (o : Oper) : Foot :=
  { dst := o.dst, slots := opSlots o.op.operands ++ guardSlot ops o, rs := opIds s o ++ writes Γ s o, ws := writes Γ s o }

def meets (xs ys : List Id) : Bool := xs.any fun x => ys.any fun y => decide (x = y)

def Foot.hit (f g : Foot) : Bool :=
  match f.dst with
  | some t => (g.slots.any fun x => decide (x = t)) || decide (g.dst = some t)
  | none => false

/-- Is one of the ids of the site that the operation may make objects at? -/
def siteIn (d : Option Tmp) (ids : List Id) : Bool :=
  match d with
  | some q => ids.any fun x => match x with | .new i _ => decide (i = q) | .old _ => false
  | none => false

/-- May the two change places? -/
def Foot.indep (f g : Foot) : Bool := !f.hit g && !g.hit f && !meets f.ws g.rs && !meets g.ws f.rs && !siteIn f.dst g.rs && !siteIn g.dst f.rs

/-- Each pair that no edge orders may change places. -/
noncomputable def gopsD {R : Type} (P : Program) (Γ : Gam) (objs : List Nat) (ops : Array Oper) (anc : List Nat) : Nat → List Oper → List (Nat × Foot) → AS → (AS → Option R) → Option R
  | _, [], _, s, k => k s
  | i, o :: l, fs, s, k =>
    match fs.all fun x => (anc.getD i 0).testBit x.1 || x.2.indep (foot Γ ops s o) with
    | true => gop P Γ objs ops o s fun s' => s'.seen fun s' => gopsD P Γ objs ops anc (i + 1) l ((i, foot Γ ops s o) :: fs) s' k
    | false => none

/-- The edges that bind go back. -/
def edgesOk (ops : List Oper) : Bool := ops.zipIdx.all fun x => x.1.after.toList.all fun e => !Region.binds .any e || decide (e.on < x.2)

/-! ### Control -/

/-- A place that may hold nil, and is taken for an empty slice of a site, of a slice type; or holds an object, that becomes the site's. -/
structure Own' where
  j : Nat
  p : List Stp
  q : Nat
  T : TypeId

/-- A place, and the type as which what stands there is taken as data. -/
structure Dat where
  j : Nat
  p : List Stp
  t : Ty

structure LoopAnn where
  /-- The slots that stay. -/
  keep : List Nat
  /-- The sites whose objects stay. -/
  sites : List Nat
  /-- Objects that are marked. -/
  frz : List Id
  /-- Slots that are taken as data. -/
  data : List (Nat × Ty)
  /-- Slots that may be nil, and are taken for an empty slice of a site, of a slice type. -/
  owns : List Own'
  dats : List Dat := []

/-- What is known of a loop. -/
structure LEntry where
  X : Type
  run : AS → Option X
  out : X → Out (Exit × AS)

/-- Where ways come together: all that stays of their ends. -/
structure Join where
  an : LoopAnn
  X : Type
  inn : Exit → AS → Option X
  out : X → Out (Exit × AS)
  ok : ∀ e s x, inn e s = some x → (out x).eval = some (e, s)

structure Ann where
  objs : List Nat
  loops : Nat → LoopAnn
  outs : Nat → Bool → LoopAnn
  sums : Nat → Option LEntry
  /-- Results that may be nil, and are taken for an empty slice of a site. -/
  owns : List Own'
  /-- Results whose rows are cut to their lengths. -/
  trim : List Nat
  /-- Results that are taken as data. -/
  res : List (Option Ty)
  dats : List Dat := []
  /-- Behind a region; ahead of what a region begins. -/
  joinR : Nat → Option Join := fun _ => none
  joinS : Nat → Option Join := fun _ => none

def firstRegion : Code → Nat
  | .region id _ _ => id
  | .seq a _ => firstRegion a
  | .block _ b => firstRegion b
  | .loop b => firstRegion b
  | .scope b => firstRegion b
  | _ => 0

def keepSlots (keep : List Nat) : Nat → List AVal → List AVal
  | _, [] => []
  | i, v :: vs => (match keep.any (fun x => decide (x = i)) with | true => v | false => .undef) :: keepSlots keep (i + 1) vs

def keepSites (keep : List Nat) : Nat → List (List Ent) → List (List Ent)
  | _, [] => []
  | i, v :: vs => (match keep.any (fun x => decide (x = i)) with | true => v | false => []) :: keepSites keep (i + 1) vs

def AVal.noRef (id : Id) : AVal → Bool
  | .ptr i _ _ _ => !decide (i = id)
  | .sref i _ _ _ _ _ => !decide (i = id)
  | .pr a b => a.noRef id && b.noRef id
  | .cons a b => a.noRef id && b.noRef id
  | .fn _ c => c.noRef id
  | .bx _ c => c.noRef id
  | _ => true

def Ent.noRef (id : Id) : Ent → Bool
  | .obj _ _ c => c.noRef id
  | .dead => true

def AS.noRef (s : AS) (id : Id) : Bool := s.slots.all (AVal.noRef id) && s.olds.all (Ent.noRef id) && s.news.all fun es => es.all (Ent.noRef id)

/-- The object that a value holds as a whole. -/
def AVal.head : AVal → Option (Id × Nat)
  | .sref id ver [] 0 0 _ => some (id, ver)
  | .ptr id ver [] 0 => some (id, ver)
  | _ => none
def single (l : Option (List Ent)) : Bool := match l with | some [_] => true | _ => false
/-- May the object of a site become that of another one? -/
def AS.movable (s : AS) (q b : Nat) : Bool := single s.news[b]? && (decide (b = q) || single s.news[q]? || s.virgin q)
/-- An object's new name, of its newest version. -/
def renTo (id : Id) (v q : Nat) (i : Id) (ver : Nat) : Option (Id × Nat) :=
  match decide (i = id) with
  | true => (match ver == v with | true => some (.new q 0, 0) | false => none)
  | false => (match decide (i = .new q 0) with | true => none | false => some (i, ver))
def Ent.ren (ρ : Id → Nat → Option (Id × Nat)) : Ent → Ent
  | .obj v fr c => .obj v fr (c.ren ρ)
  | .dead => .dead
def AS.renum (s : AS) (b v q : Nat) (fr : Bool) (c : AVal) : AS :=
  { slots := s.slots.map (AVal.ren (renTo (.new b 0) v q)), olds := s.olds.map (Ent.ren (renTo (.new b 0) v q)),
    news := ((s.news.map fun es => es.map (Ent.ren (renTo (.new b 0) v q))).set b []).set q [.obj 0 fr (c.ren (renTo (.new b 0) v q))] }

/-- What stands at a place: in a slot, or within what the slot points to. -/
def AS.at (s : AS) (j : Nat) : List Stp → Out AVal
  | [] => .ok (s.slot j)
  | p => match s.slot j with
    | .ptr id ver [] 0 => match s.obj id with
      | some (v, _, c) => .guard (v == ver) ((loc c.strip p).bind fun r => .ok r.2)
      | none => .fail
    | _ => .fail
/-- An empty slice in the place of nil. -/
def AS.putAt (s : AS) (j : Nat) (v : AVal) : List Stp → Out AS
  | [] => .ok (s.put (some j) v)
  | p => match s.slot j with
    | .ptr id _ [] 0 => match s.obj id with
      | some (ver, fr, c) => match c.strip with
        | .vec .. => .fail
        | c1 => (upd c1 p v).bind fun c' => .ok (s.setEnt id (.obj ver fr (c.wrap c')))
      | none => .fail
    | _ => .fail

/-- Places as data. -/
def datsA (s : AS) : List Dat → Out AS
  | [] => .ok s
  | o :: l => (s.at o.j o.p).bind fun u => (s.toTy o.t u).bind fun x => ((s.freezeAll u.shared).putAt o.j (.d o.t x) o.p).bind fun s' => datsA s' l

def promote (P : Program) (s : AS) : List Own' → Out AS
  | [] => .ok s
  | o :: l => (s.at o.j o.p).bind fun u => match u with
    | .nils => match elemOfT P o.T, s.virgin o.q with
      | some (e, t, _), true => ((s.born o.q [.obj 0 false (.vec e t [])]).putAt o.j (.sref (.new o.q 0) 0 [] 0 0 0) o.p).bind fun s' => promote P s' l
      | _, _ => .fail
    | u => match u.head with
      | some (.new b 0, ver) => match s.obj (.new b 0), s.movable o.q b with
        | some (v, fr, c), true => match v == ver with
          | true => promote P (s.renum b v o.q fr c) l
          | false => .fail
        | _, _ => .fail
      | _ => .fail

/-- Rows that are cut to the length of a slice. -/
def trimA (s : AS) : List Nat → Out AS
  | [] => .ok s
  | j :: l => match s.slot j with
    | .sref id ver [] 0 0 len => match s.obj id with
      | some (v, false, .vec e t r) => match v == ver with
        | true => .chk (decide (len ≤ r.length)) (trimA (s.setEnt id (.obj v false (.vec e t (r.take len)))) l)
        | false => .fail
      | _ => .fail
    | _ => .fail

/-- Slots as data. -/
def asData (s : AS) : List (Nat × Ty) → Out AS
  | [] => .ok s
  | (j, t) :: l => (s.toTy t (s.slot j)).bind fun x => asData ((s.freezeAll (s.slot j).shared).put (some j) (.d t x)) l

/-- Does every reference go to an object that is there? -/
def AVal.there (s : AS) : AVal → Bool
  | .ptr id _ _ _ => (s.obj id).isSome
  | .sref id _ _ _ _ _ => (s.obj id).isSome
  | .pr a b => a.there s && b.there s
  | .cons a b => a.there s && b.there s
  | .fn _ c => c.there s
  | .bx _ c => c.there s
  | _ => true

def Ent.there (s : AS) : Ent → Bool
  | .obj _ _ c => c.there s
  | .dead => true

def keepOnly (an : LoopAnn) (s : AS) : AS := { slots := keepSlots an.keep 0 s.slots, olds := s.olds, news := keepSites an.sites 0 s.news }

def AS.allThere (s : AS) : Bool := (s.slots.all (AVal.there s)) && (s.olds.all (Ent.there s)) && (s.news.all fun es => es.all (Ent.there s))

/-- What is left of a state at a loop's head, or behind it. -/
def norm (P : Program) (an : LoopAnn) (s : AS) : Out AS :=
  (datsA (s.freezeAll an.frz) an.dats).bind fun s => (asData s an.data).bind fun s => .guard (keepOnly an s).allThere (promote P (keepOnly an s) an.owns)

def loopS {R : Type} (nrm : AS → Out AS) (nrmX : Exit → AS → Out AS) (body : AS → (Exit → AS → Option R) → Option R) : Nat → AS → (Exit → AS → Option R) → Option R
  | 0, _, _ => none
  | n + 1, s, k => body s fun e s' => match e with
    | .normal => (nrm s').run fun s1 => loopS nrm nrmX body n s1 k
    | e => (nrmX e s').run (k e)

def isRet : Exit → Bool | .ret => true | _ => false

def useSum {R : Type} (le : LEntry) (s : AS) (k : Exit → AS → Option R) : Option R := obind (le.run s) fun x => (le.out x).run fun r => k r.1 r.2

def joined {R : Type} (P : Program) (j : Option Join) (run : {R : Type} → (Exit → AS → Option R) → Option R) (k : Exit → AS → Option R) : Option R :=
  match j with
  | none => run k
  | some j => obind (run fun e s => (norm P j.an s).run (j.inn e)) fun x => (j.out x).run fun r => k r.1 r.2

noncomputable def ev (P : Program) (Γ : Gam) (an : Ann) (N : Nat) : Code → {R : Type} → AS → (Exit → AS → Option R) → Option R
  | .skip, _, s, k => k .normal s
  | .region id ops draw, _, s, k => joined P (an.joinR id) (fun k => match draw with
    | true => (match edgesOk ops.toList with
      | true => gopsD P Γ an.objs ops (ancs ops.toList) 0 ops.toList [] s fun s' => k .normal s'
      | false => none)
    | false => gops P Γ an.objs ops ops.toList s fun s' => k .normal s') k
  | .seq a b, _, s, k => joined P (an.joinS (firstRegion b)) (fun k => ev P Γ an N a s k) fun e s' => match e with | .normal => ev P Γ an N b s' k | e => k e s'
  | .cond c x y, _, s, k => match s.ev c with
    | .d .bool b => sel b (ev P Γ an N x s k) (ev P Γ an N y s k)
    | _ => none
  | .block id b, _, s, k => ev P Γ an N b s fun e s' => match e with | .exit i => (match decide (i = id) with | true => k .normal s' | false => k (.exit i) s') | e => k e s'
  | .loop b, _, s, k => (norm P (an.loops (firstRegion b)) s).run fun s1 => match an.sums (firstRegion b) with
    | some le => useSum le s1 k
    | none => loopS (norm P (an.loops (firstRegion b))) (fun e => norm P (an.outs (firstRegion b) (isRet e))) (ev P Γ an N b) N s1 k
  | .scope b, _, s, k => ev P Γ an N b s fun e s' => match e with | .goto _ => none | e => k e s'
  | .label _, _, s, k => k .normal s
  | .exit id, _, s, k => k (.exit id) s
  | .ret, _, s, k => k .ret s
  | _, _, _, _ => none

/-! ### Functions -/

def resVal (P : Program) (s : AS) : ResultVar → Out AVal
  | .tmp t => .ok (s.slot t)
  | .cell a T => loadA P s T (s.slot a)

/-- A result, as data or as it is. -/
def resOne (P : Program) (s : AS) (r : ResultVar) : Option Ty → Out (AS × AVal)
  | none => (resVal P s r).bind fun v => .ok (s, v)
  | some t => (resVal P s r).bind fun v => (s.toTy t v).bind fun x => .ok (s.freezeAll v.shared, .d t x)

def resVals (P : Program) (s : AS) : List ResultVar → List (Option Ty) → Out (AS × AVal)
  | [], _ => .ok (s, .nil)
  | r :: rs, ts => (resOne P s r (ts.headD none)).bind fun x => .guard x.2.celled ((resVals P x.1 rs ts.tail).bind fun y => .ok (y.1, .cons x.2 y.2))

def resultA (P : Program) (fn : Func) (ts : List (Option Ty)) (s : AS) : Out (AS × AVal) :=
  match fn.results.toList with
  | [r] => resOne P s r (ts.headD none)
  | rs => resVals P s rs ts

/-- The bodies of all loops. -/
def loopsOf : Code → List Code
  | .seq a b => loopsOf a ++ loopsOf b
  | .cond _ a b => loopsOf a ++ loopsOf b
  | .block _ b => loopsOf b
  | .scope b => loopsOf b
  | .loop b => b :: loopsOf b
  | _ => []

def fnLoop (fn : Func) (i : Nat) : Code := match fn.body with | some c => (loopsOf c).getD i .skip | none => .skip

/-- One round of a loop of a function. -/
noncomputable def lround (P : Program) (Γ : Gam) (an : Ann) (N : Nat) (fn : Func) (i : Nat) {R : Type} (s : AS) (kn : AS → Option R) (kx : Exit → AS → Option R) : Option R :=
  ev P Γ an N (fnLoop fn i) s fun e s' => match e with
    | .normal => (norm P (an.loops (firstRegion (fnLoop fn i))) s').run kn
    | e => (norm P (an.outs (firstRegion (fnLoop fn i)) (isRet e)) s').run (kx e)

/-- All rounds. -/
noncomputable def lrun (P : Program) (Γ : Gam) (an : Ann) (N : Nat) (fn : Func) (i : Nat) {R : Type} (n : Nat) (s : AS) (k : Exit → AS → Option R) : Option R :=
  loopS (norm P (an.loops (firstRegion (fnLoop fn i)))) (fun e => norm P (an.outs (firstRegion (fnLoop fn i)) (isRet e))) (ev P Γ an N (fnLoop fn i)) n s k

def Id.isNew : Id → Bool | .new _ _ => true | .old _ => false

/-- The ids of a function's end: what it was lent, and what it made that can be reached. -/
def AS.finIds (s : AS) (v : AVal) : List Id := (s.reach 64 (v.ids ++ s.olds.flatMap Ent.ids) []).filter Id.isNew

def finRef (ids : List Id) : Id → Nat → Option (Id × Nat)
  | .old k, v => some (.old k, v)
  | id, v => match idxOf id ids with | some j => some (.new 0 j, v) | none => none

def Ent.fin (ids : List Id) : Ent → Ent
  | .obj v fr c => .obj v fr (c.ren (finRef ids))
  | .dead => .dead

def AS.finAt (s : AS) (ids : List Id) (v : AVal) : GRes :=
  { val := v.ren (finRef ids), olds := s.olds.map (Ent.fin ids), news := ids.map fun id => ((s.ent id).getD .dead).fin ids }

def AS.fin (s : AS) (v : AVal) : GRes := s.finAt (s.finIds v) v

def start (fn : Func) (args : List AVal) (olds : List Ent) : AS :=
  { slots := args ++ List.replicate (fn.ntmps - args.length) .undef, olds, news := List.replicate fn.ntmps [] }

def resSlots (fn : Func) : List Nat := fn.results.toList.map fun r => match r with | .tmp t => t | .cell a _ => a
def AS.drop (s : AS) (ks : List Nat) : AS := { slots := keepSlots ks 0 s.slots, olds := s.olds, news := s.news }

/-- What a function leaves. -/
def finish (P : Program) (an : Ann) (fn : Func) (s : AS) : Out GRes :=
  (datsA s an.dats).bind fun s => (promote P (s.drop (resSlots fn)) an.owns).bind fun s => (trimA s an.trim).bind fun s => (resultA P fn an.res s).bind fun r => .ok (r.1.fin r.2)

/-- A function's run. -/
noncomputable def arun (P : Program) (Γ : Gam) (an : Ann) (N : Nat) (fn : Func) (args : List AVal) (olds : List Ent) {R : Type} (k : GRes → Option R) : Option R :=
  match fn.body with
  | some c => ev P Γ an N c (start fn args olds) fun e s => match e with
    | .normal => (finish P an fn s).run k
    | .ret => (finish P an fn s).run k
    | _ => none
  | none => none

end Go.Ab
