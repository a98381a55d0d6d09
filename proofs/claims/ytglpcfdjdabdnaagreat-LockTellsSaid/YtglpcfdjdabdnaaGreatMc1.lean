/-
  Texts put together: Ab0, Ab2, Ab4, Ab6, Ab8.
-/
import Derived.WalkKit
import Derived.KernelRfl
/-
  An abstract machine for the model's code: slots hold typed pure data, boxes and own slices are objects. Definitions only.
-/
namespace Go.Ab

/-! ### Types and data -/

inductive Ty where
  | int (k : IntKind) | bool | str | slice (t : Ty) | unit | pair (a b : Ty) | arr (n : Nat) (t : Ty)
  deriving DecidableEq, Inhabited

@[reducible] def Ty.den : Ty → Type
  | .int _ => Int
  | .bool => Bool
  | .str => ByteArray
  | .slice t => List t.den
  | .unit => Unit
  | .pair a b => a.den × b.den
  | .arr _ t => List t.den

def Ty.size : Ty → Nat
  | .unit => 0
  | .pair a b => a.size + b.size
  | .arr n t => n * t.size
  | .int _ | .bool | .str | .slice _ => 1

def Ty.agg : Ty → Bool
  | .unit | .pair _ _ | .arr _ _ => true
  | .int _ | .bool | .str | .slice _ => false

def Ty.zero : (t : Ty) → t.den
  | .int _ => (0 : Int)
  | .bool => false
  | .str => ByteArray.empty
  | .slice _ => []
  | .unit => ()
  | .pair a b => (a.zero, b.zero)
  | .arr n t => List.replicate n t.zero

/-- Whether values of the type can be compared. -/
def Ty.comp : Ty → Bool
  | .slice _ => false
  | .pair a b => a.comp && b.comp
  | .arr _ t => t.comp
  | .int _ | .bool | .str | .unit => true

def listBeq {α : Type} (f : α → α → Bool) : List α → List α → Bool
  | [], [] => true
  | x :: xs, y :: ys => f x y && listBeq f xs ys
  | _, _ => false

def Ty.beq : (t : Ty) → t.den → t.den → Bool
  | .int _, x, y => (x : Int) == y
  | .bool, x, y => (x : Bool) == y
  | .str, x, y => (x : ByteArray).toList == (y : ByteArray).toList
  | .slice t, x, y => listBeq t.beq x y
  | .unit, _, _ => true
  | .pair a b, x, y => a.beq x.1 y.1 && b.beq x.2 y.2
  | .arr _ t, x, y => listBeq t.beq x y

def castTy (t t' : Ty) (x : t.den) : Option t'.den := if h : t = t' then some (h ▸ x) else none

def nth (t : Ty) (l : List t.den) (i : Nat) : t.den := l.getD i t.zero

/-! ### Abstract values -/

inductive Id where
  | old (k : Nat)
  | new (site j : Nat)
  deriving DecidableEq, Inhabited

inductive Stp where
  | fst | snd
  | idx (i : Nat)
  /-- The array itself, as a row. -/
  | arr

inductive AVal where
  | undef
  | gone
  | nils | nilp | nilf | nilm
  | d (t : Ty) (x : t.den)
  | pr (a b : AVal)
  | ptr (id : Id) (ver : Nat) (p : List Stp) (n : Nat)
  | rptr (t : Ty) (x : t.den)
  | sref (id : Id) (ver : Nat) (p : List Stp) (c i len : Nat)
  | fn (f : FuncId) (caps : AVal)
  | cons (a b : AVal)
  | nil
  | vec (e : TypeId) (t : Ty) (l : List t.den)
  /-- Bytes out of a text: their block bears a mark. -/
  | sb (l : List Int)
  /-- A box whose type is known. -/
  | bx (e : TypeId) (c : AVal)

inductive Ent where
  | dead
  | obj (ver : Nat) (fr : Bool) (c : AVal)

structure AS where
  slots : List AVal
  olds : List Ent
  news : List (List Ent)

/-- Runs of slots that hold nothing, and of sites that made nothing. -/
def undN (n : Nat) (l : List AVal) : List AVal := List.replicate n .undef ++ l
def nilN (n : Nat) (l : List (List Ent)) : List (List Ent) := List.replicate n [] ++ l

/-! ### Outcomes -/

inductive Out (α : Type) : Type 1 where
  | ok (a : α)
  | fail
  | chk (c : Bool) (r : Out α)
  | get {β : Type} (x : Option β) (f : β → Out α)
  | br (c : Bool) (a b : Out α)

def Out.eval {α : Type} : Out α → Option α
  | .ok a => some a
  | .fail => none
  | .chk c r => match c with | true => r.eval | false => none
  | .get x f => match x with | some y => (f y).eval | none => none
  | .br c a b => match c with | true => a.eval | false => b.eval

def sel {α : Type} (c : Bool) (x y : Option α) : Option α := match c with | true => x | false => y
def obind {α β : Type} (x : Option α) (f : α → Option β) : Option β := match x with | some a => f a | none => none

def Out.run {α R : Type} : Out α → (α → Option R) → Option R
  | .ok a, k => k a
  | .fail, _ => none
  | .chk c r, k => sel c (r.run k) none
  | .get x f, k => obind x fun y => (f y).run k
  | .br c a b, k => sel c (a.run k) (b.run k)

def Out.bind {α β : Type} : Out α → (α → Out β) → Out β
  | .ok a, f => f a
  | .fail, _ => .fail
  | .chk c r, f => .chk c (r.bind f)
  | .get x g, f => .get x fun y => (g y).bind f
  | .br c a b, f => .br c (a.bind f) (b.bind f)

def Out.opt {α : Type} : Option α → Out α
  | some a => .ok a
  | none => .fail

/-- A test whose outcome is looked at as the machine runs: where it is a literal nothing is left of it. -/
def Out.guard {α : Type} (c : Bool) (r : Out α) : Out α := match c with | true => r | false => .fail

/-! ### Small functions on values -/

def AVal.size : AVal → Nat
  | .d t _ => t.size
  | .pr a b => a.size + b.size
  | _ => 1

def AVal.agg : AVal → Bool
  | .d t _ => t.agg
  | .pr _ _ => true
  | _ => false

/-- May it lie in cells? -/
def AVal.celled : AVal → Bool
  | .undef | .cons _ _ | .nil | .vec .. | .bx .. => false
  | _ => true

/-- What lies in a box. -/
def AVal.strip : AVal → AVal
  | .bx _ c => c
  | c => c
def AVal.wrap : AVal → AVal → AVal
  | .bx e _, c => .bx e c
  | _, c => c

def mkPr : AVal → AVal → AVal
  | .d a x, .d b y => .d (.pair a b) (x, y)
  | a, b => .pr a b

def ofConst : Value → AVal
  | .bool b => .d .bool b
  | .int k n => .d (.int k) n
  | .string s => .d .str s
  | .slice none 0 0 => .nils
  | .pointer none => .nilp
  | .nilFunc => .nilf
  | .map none => .nilm
  | _ => .undef

def AS.slot (s : AS) (i : Nat) : AVal := s.slots.getD i .undef

def AS.ev (s : AS) : Operand → AVal
  | .tmp t => s.slot t
  | .const v => ofConst v
  | .func f => .fn f .nil
  | .global _ => .undef

def AS.put (s : AS) (dst : Option Tmp) (v : AVal) : AS :=
  match dst with
  | some t => { s with slots := s.slots.set t v }
  | none => s

def AS.ent (s : AS) : Id → Option Ent
  | .old k => s.olds[k]?
  | .new i j => (s.news.getD i [])[j]?

def AS.setEnt (s : AS) (id : Id) (e : Ent) : AS :=
  match id with
  | .old k => { s with olds := s.olds.set k e }
  | .new i j => { s with news := s.news.set i ((s.news.getD i []).set j e) }

/-- Is there room for objects of this site: has it made none? -/
def AS.virgin (s : AS) (i : Nat) : Bool := match s.news[i]? with | some [] => true | _ => false

def AS.born (s : AS) (i : Nat) (es : List Ent) : AS := { s with news := s.news.set i es }

def AS.obj (s : AS) (id : Id) : Option (Nat × Bool × AVal) :=
  match s.ent id with
  | some (.obj v f c) => some (v, f, c)
  | _ => none

/-! ### Types of the program -/

def tyOf (P : Program) : Nat → TypeId → Option Ty
  | 0, _ => none
  | n + 1, T =>
    match P.underlying T with
    | some (.int k) => some (.int k)
    | some .bool => some .bool
    | some .string => some .str
    | some (.slice e) => match tyOf P n e with | some t => some (.slice t) | none => none
    | some (.array k e) => match tyOf P n e with | some t => some (.arr k t) | none => none
    | some (.struct fs) => fs.toList.foldr (fun f acc => match tyOf P n f.type, acc with | some a, some b => some (.pair a b) | _, _ => none) (some .unit)
    | _ => none

def zeroOf (P : Program) : Nat → TypeId → Option AVal
  | 0, _ => none
  | n + 1, T =>
    match P.underlying T with
    | some (.int k) => some (.d (.int k) (0 : Int))
    | some .bool => some (.d .bool false)
    | some .string => some (.d .str ByteArray.empty)
    | some (.slice _) => some .nils
    | some (.pointer _) => some .nilp
    | some (.map _ _) => some .nilm
    | some (.func _ _ _) => some .nilf
    | some (.array k e) => match tyOf P n e with | some t => some (.d (.arr k t) (List.replicate k t.zero)) | none => none
    | some (.struct fs) => fs.toList.foldr (fun f acc => match zeroOf P n f.type, acc with | some a, some b => some (mkPr a b) | _, _ => none) (some (.d .unit ()))
    | _ => none

def depth : Nat := 12

/-- Does a value of this type take as many cells, and is it made of parts as the type is? -/
def fits (P : Program) (T : TypeId) (v : AVal) : Bool :=
  v.celled && (P.cellsOf T == v.size) &&
  (match P.underlying T with | some (.struct _) => v.agg | some (.array _ _) => v.agg | some _ => !v.agg | none => false)

def fieldPath : Nat → List Stp
  | 0 => [.fst]
  | n + 1 => .snd :: fieldPath n

/-! ### Looking into contents -/

def loc : AVal → List Stp → Out (Nat × AVal)
  | c, [] => .ok (0, c)
  | c, .arr :: p => loc c p
  | .pr a _, .fst :: p => loc a p
  | .pr a b, .snd :: p => (loc b p).bind fun (n, v) => .ok (a.size + n, v)
  | .d (.pair a _) x, .fst :: p => loc (.d a x.1) p
  | .d (.pair a b) x, .snd :: p => (loc (.d b x.2) p).bind fun (n, v) => .ok (a.size + n, v)
  | .d (.arr _ t) l, .idx i :: p => .chk (decide (i < (l : List t.den).length)) ((loc (.d t (nth t l i)) p).bind fun (n, v) => .ok (i * t.size + n, v))
  | .vec _ t l, .idx i :: p => .chk (decide (i < l.length)) ((loc (.d t (nth t l i)) p).bind fun (n, v) => .ok (i * t.size + n, v))
  | _, _ :: _ => .fail

def upd : AVal → List Stp → AVal → Out AVal
  | c, .arr :: p, v => upd c p v
  | .vec .., [], _ => .fail
  | c, [], v => .guard (v.celled && (c.size == v.size)) (.ok v)
  | .pr a b, .fst :: p, v => (upd a p v).bind fun a' => .ok (mkPr a' b)
  | .pr a b, .snd :: p, v => (upd b p v).bind fun b' => .ok (mkPr a b')
  | .d (.pair a b) x, .fst :: p, v => (upd (.d a x.1) p v).bind fun a' => .ok (mkPr a' (.d b x.2))
  | .d (.pair a b) x, .snd :: p, v => (upd (.d b x.2) p v).bind fun b' => .ok (mkPr (.d a x.1) b')
  | .d (.arr n t) l, .idx i :: p, v => .chk (decide (i < (l : List t.den).length)) ((upd (.d t (nth t l i)) p v).bind fun
      | .d t' y => (Out.opt (castTy t' t y)).bind fun y => .ok (.d (.arr n t) ((l : List t.den).set i y))
      | _ => .fail)
  | .vec e t l, .idx i :: p, v => .chk (decide (i < l.length)) ((upd (.d t (nth t l i)) p v).bind fun
      | .d t' y => (Out.opt (castTy t' t y)).bind fun y => .ok (.vec e t (l.set i y))
      | _ => .fail)
  | _, _ :: _, _ => .fail

/-- What a slice of an object's row holds: the element's type, the row, the row's place in cells. -/
def AS.row (s : AS) (id : Id) (ver : Nat) (p : List Stp) : Out (Nat × (t : Ty) × List t.den) :=
  match s.obj id with
  | some (v, _, c) => .guard (v == ver) ((loc c.strip p).bind fun
    | (n, .d (.arr _ t) l) => .ok (n, ⟨t, l⟩)
    | (n, .vec _ t l) => .ok (n, ⟨t, l⟩)
    | _ => .fail)
  | none => .fail

def cut {α : Type} (l : List α) (i len : Nat) : List α := (l.drop i).take len

/-- A value as pure data of a type. -/
def AS.toTy (s : AS) : (t : Ty) → AVal → Out t.den
  | t, .d t' x => Out.opt (castTy t' t x)
  | .slice _, .nils => .ok []
  | .slice t, .sref id ver p c i len => (s.row id ver p).bind fun r => .chk (decide (r.1 + i * r.2.1.size = c ∧ i + len ≤ r.2.2.length)) (Out.opt (castTy (.slice r.2.1) (.slice t) (cut r.2.2 i len)))
  | .pair a b, .pr x y => (s.toTy a x).bind fun x => (s.toTy b y).bind fun y => .ok (x, y)
  | _, _ => .fail

/-- The objects that data taken out of a value share. -/
def AVal.shared : AVal → List Id
  | .sref id _ _ _ _ _ => [id]
  | .pr a b => a.shared ++ b.shared
  | _ => []

def AS.freeze (s : AS) (id : Id) : AS :=
  match s.ent id with
  | some (.obj v _ c) => s.setEnt id (.obj v true c)
  | _ => s

def AS.freezeAll (s : AS) : List Id → AS
  | [] => s
  | id :: ids => (s.freeze id).freezeAll ids

end Go.Ab

/-
  The abstract machine's operations and control. Definitions only.
-/
namespace Go.Ab

/-! ### Zero values, held against the program's -/

def eatL {α : Type} (f : α → List Value → Option (List Value)) : List α → List Value → Option (List Value)
  | [], cs => some cs
  | x :: xs, cs => match f x cs with | some r => eatL f xs r | none => none

def eatT : (t : Ty) → t.den → List Value → Option (List Value)
  | .int k, x, .int k' n :: r => match decide (k = k'), decide (n = (x : Int)) with | true, true => some r | _, _ => none
  | .bool, x, .bool b :: r => match decide (b = (x : Bool)) with | true => some r | false => none
  | .str, x, .string s :: r => match decide (s = (x : ByteArray)) with | true => some r | false => none
  | .slice _, [], .slice none 0 0 :: r => some r
  | .unit, _, r => some r
  | .pair a b, x, r => match eatT a x.1 r with | some r' => eatT b x.2 r' | none => none
  | .arr n t, l, r => match decide ((l : List t.den).length = n) with | true => eatL (eatT t) l r | false => none
  | _, _, _ => none

def eatA : AVal → List Value → Option (List Value)
  | .d t x, r => eatT t x r
  | .nils, .slice none 0 0 :: r => some r
  | .nilp, .pointer none :: r => some r
  | .nilf, .nilFunc :: r => some r
  | .nilm, .map none :: r => some r
  | .pr a b, r => match eatA a r with | some r' => eatA b r' | none => none
  | _, _ => none

def isAggV : Value → Bool | .agg _ => true | _ => false

def zchk (P : Program) (T : TypeId) (z : AVal) : Bool :=
  match P.info? T with
  | some i => match i.zero with
    | some zv => (match eatA z zv.cells.toList with | some [] => true | _ => false) && (isAggV zv == z.agg)
    | none => false
  | none => false

/-! ### Calls -/

structure GRes where
  val : AVal
  olds : List Ent
  news : List Ent

/-- What is known of a function: which arguments it takes as pure data, what it makes of them, how that lies in memory. -/
structure Entry where
  params : List (Option Ty)
  X : Type
  run : List AVal → List Ent → Option X
  out : List AVal → List Ent → X → GRes

/-- What is known of a function, by what it is handed. -/
abbrev Gam := FuncId → List AVal → Option Entry

def AVal.ids : AVal → List Id
  | .ptr id _ _ _ => [id]
  | .sref id _ _ _ _ _ => [id]
  | .pr a b => a.ids ++ b.ids
  | .cons a b => a.ids ++ b.ids
  | .fn _ c => c.ids
  | .bx _ c => c.ids
  | _ => []

def Ent.ids : Ent → List Id
  | .obj _ _ c => c.ids
  | .dead => []

def AS.reach (s : AS) : Nat → List Id → List Id → List Id
  | 0, _, acc => acc
  | _ + 1, [], acc => acc
  | n + 1, id :: todo, acc => if acc.contains id then s.reach n todo acc else s.reach n (((s.ent id).getD .dead).ids ++ todo) (acc ++ [id])

def idxOf (id : Id) : List Id → Option Nat
  | [] => none
  | x :: xs => if x = id then some 0 else (idxOf id xs).map (· + 1)

/-- Every reference by another name, or gone. -/
def AVal.ren (ρ : Id → Nat → Option (Id × Nat)) : AVal → AVal
  | .ptr id ver p n => match ρ id ver with | some r => .ptr r.1 r.2 p n | none => .gone
  | .sref id ver p c i len => match ρ id ver with | some r => .sref r.1 r.2 p c i len | none => .gone
  | .pr a b => .pr (a.ren ρ) (b.ren ρ)
  | .cons a b => .cons (a.ren ρ) (b.ren ρ)
  | .fn f c => .fn f (c.ren ρ)
  | .bx e c => .bx e (c.ren ρ)
  | v => v

/-- A reference into a caller's object, as the callee sees it. -/
def AS.refIn (s : AS) (ids : List Id) (id : Id) (ver : Nat) : Option (Id × Nat) :=
  match idxOf id ids, s.obj id with
  | some k, some (v, _, _) => if v = ver then some (.old k, 0) else none
  | _, _ => none

def AS.entIn (s : AS) (ids : List Id) (id : Id) : Ent :=
  match s.ent id with
  | some (.obj _ fr c) => .obj 0 fr (c.ren (s.refIn ids))
  | _ => .dead

def AS.verOf (s : AS) (id : Id) : Nat := match s.obj id with | some (v, _, _) => v | none => 0

def idOut (ids : List Id) (dst : Nat) : Id → Id
  | .old k => ids.getD k (.old 0)
  | .new _ j => .new dst j

/-- A reference that a callee hands back, as the caller sees it. -/
def AS.refOut (s : AS) (ids : List Id) (dst : Nat) : Id → Nat → Option (Id × Nat)
  | .old k, v => match ids[k]? with | some id => some (id, s.verOf id + v) | none => none
  | .new _ j, v => some (.new dst j, v)

def AS.entOut (s : AS) (ids : List Id) (dst : Nat) (ver : Nat) : Ent → Ent
  | .obj v fr c => .obj (ver + v) fr (c.ren (s.refOut ids dst))
  | .dead => .dead

/-- Every reference to an object that is there, or to one of the ids. -/
def AS.conv (s : AS) : List (Option Ty) → List AVal → Out (List AVal × List Id)
  | [], [] => .ok ([], [])
  | some t :: ps, v :: vs => (s.toTy t v).bind fun x => (s.conv ps vs).bind fun r => .ok (.d t x :: r.1, v.shared ++ r.2)
  | none :: ps, v :: vs => (s.conv ps vs).bind fun r => .ok (v :: r.1, r.2)
  | _, _ => .fail

def AS.setEnts (s0 : AS) (all : List Id) (dst : Nat) (s : AS) : List Id → List Ent → AS
  | id :: ids, e :: es => AS.setEnts s0 all dst (s.setEnt id (s0.entOut all dst (s0.verOf id) e)) ids es
  | _, _ => s

def AVal.list : AVal → List AVal
  | .cons a b => a :: b.list
  | _ => []

def AS.made (s : AS) (ids : List Id) (t : Nat) : List Ent → AS
  | [] => s
  | e :: es => s.born t ((e :: es).map (s.entOut ids t 0))

/-- What is left of a state by a call. -/
def AS.back (s : AS) (ids : List Id) (dst : Option Tmp) (g : GRes) : Out AS :=
  match dst with
  | some t => .guard ((g.olds.length == ids.length) && (g.news.isEmpty || s.virgin t))
      (.ok ((AS.setEnts s ids t (s.made ids t g.news) ids g.olds).put dst (g.val.ren (s.refOut ids t))))
  | none => .guard ((g.olds.length == ids.length) && g.news.isEmpty) (.ok (AS.setEnts s ids 0 s ids g.olds))

def AS.lends (s : AS) (vs : List AVal) : List Id := s.reach 64 (vs.flatMap AVal.ids) []

def AS.enter (s : AS) (en : Entry) (dst : Option Tmp) (ids : List Id) (vs : List AVal) : Out AS :=
  .guard (ids.all fun id => (s.obj id).isSome)
    (.get (en.run (vs.map (AVal.ren (s.refIn ids))) (ids.map (s.entIn ids))) fun x => s.back ids dst (en.out (vs.map (AVal.ren (s.refIn ids))) (ids.map (s.entIn ids)) x))

def AS.call (s : AS) (en : Entry) (dst : Option Tmp) (vs : List AVal) : Out AS :=
  (s.conv en.params vs).bind fun r => (s.freezeAll r.2).enter en dst ((s.freezeAll r.2).lends r.1) r.1

/-! ### Operations -/

def bitop (op : BinOp) (k : IntKind) (x y : Int) : Int :=
  match op with
  | .and => k.wrap ((BitVec.ofInt k.bits x &&& BitVec.ofInt k.bits y).toNat)
  | .or => k.wrap ((BitVec.ofInt k.bits x ||| BitVec.ofInt k.bits y).toNat)
  | .xor => k.wrap ((BitVec.ofInt k.bits x ^^^ BitVec.ofInt k.bits y).toNat)
  | _ => k.wrap ((BitVec.ofInt k.bits x &&& ~~~BitVec.ofInt k.bits y).toNat)

def intOp (op : BinOp) (k : IntKind) (x : Int) (k' : IntKind) (y : Int) : Out AVal :=
  match op with
  | .shl => .chk (decide (0 ≤ y)) (.ok (.d (.int k) (k.wrap (x * 2 ^ (min y.toNat k.bits)))))
  | .shr => .chk (decide (0 ≤ y)) (.ok (.d (.int k) (x.fdiv (2 ^ (min y.toNat k.bits)))))
  | _ => .guard (decide (k = k')) (match op with
    | .add => .ok (.d (.int k) (k.wrap (x + y)))
    | .sub => .ok (.d (.int k) (k.wrap (x - y)))
    | .mul => .ok (.d (.int k) (k.wrap (x * y)))
    | .quo => .chk (!(decide (y = 0))) (.ok (.d (.int k) (k.wrap (x.tdiv y))))
    | .rem => .chk (!(decide (y = 0))) (.ok (.d (.int k) (x.tmod y)))
    | .eql => .ok (.d .bool (x == y))
    | .neq => .ok (.d .bool (x != y))
    | .lss => .ok (.d .bool (decide (x < y)))
    | .leq => .ok (.d .bool (decide (x ≤ y)))
    | .gtr => .ok (.d .bool (decide (x > y)))
    | .geq => .ok (.d .bool (decide (x ≥ y)))
    | op => .ok (.d (.int k) (bitop op k x y)))

def strOp (op : BinOp) (x y : ByteArray) : Out AVal :=
  match op with
  | .add => .chk (decide (((x.size + y.size : Nat) : Int) ≤ IntKind.i64.max)) (.ok (.d .str (x ++ y)))
  | .eql => .ok (.d .bool (x.toList == y.toList))
  | .neq => .ok (.d .bool (!(x.toList == y.toList)))
  | .lss => .ok (.d .bool (Op.bytesLess x.toList y.toList))
  | .geq => .ok (.d .bool (!(Op.bytesLess x.toList y.toList)))
  | _ => .fail

def isAggT (P : Program) (T : TypeId) (b : Bool) : Bool :=
  match P.underlying T with | some (.struct _) => b | some (.array _ _) => b | some _ => !b | none => false

def eqFs (P : Program) (chk : TypeId → Ty → Bool) : List Field → Ty → Nat → Bool
  | [], .unit, _ => true
  | f :: fs, .pair a b, off => !(f.name == "_") && (f.offset == off) && !(a.size == 0) && (P.cellsOf f.type == a.size) && isAggT P f.type a.agg && chk f.type a && eqFs P chk fs b (off + a.size)
  | _, _, _ => false

/-- Does '==' of the type go by the data's own? -/
def eqChk (P : Program) : Nat → TypeId → Ty → Bool
  | 0, _, _ => false
  | n + 1, T, t => match P.underlying T, t with
    | some (.int _), .int _ => true
    | some .bool, .bool => true
    | some .string, .str => true
    | some (.array m e), .arr m' t' => (m == m') && !(t'.size == 0) && (P.cellsOf e == t'.size) && isAggT P e t'.agg && eqChk P n e t'
    | some (.struct fs), t => !P.stoodInHeld T && eqFs P (eqChk P n) fs.toList t 0
    | _, _ => false

/-- '==' of two values that are no numbers and no strings. -/
def eqOp (P : Program) (T : TypeId) : AVal → AVal → Out Bool
  | .d t x, .d t' y => (Out.opt (castTy t' t y)).bind fun y => .guard ((t.agg && !P.eqGuardType P.depth T || decide (t = .bool)) && eqChk P depth T t) (.ok (t.beq x y))
  | .nils, .nils => .guard (isSl P T) (.ok true)
  | .d (.slice t) l, .nils => .guard (isSl P T) (.chk (decide (0 < (l : List t.den).length)) (.ok false))
  | .nils, .d (.slice t) l => .guard (isSl P T) (.chk (decide (0 < (l : List t.den).length)) (.ok false))
  | .sref _ _ _ _ _ len, .nils => .guard (isSl P T) (.chk (decide (0 < len)) (.ok false))
  | .nils, .sref _ _ _ _ _ len => .guard (isSl P T) (.chk (decide (0 < len)) (.ok false))
  | .nilp, .nilp => .guard (isPt P T) (.ok true)
  | .ptr .., .nilp => .guard (isPt P T) (.ok false)
  | .nilp, .ptr .. => .guard (isPt P T) (.ok false)
  | .nilf, .nilf => .guard (isFn P T) (.ok true)
  | .fn .., .nilf => .guard (isFn P T) (.ok false)
  | .nilf, .fn .. => .guard (isFn P T) (.ok false)
  | _, _ => .fail
where
  isSl (P : Program) (T : TypeId) : Bool := match P.underlying T with | some (.slice _) => true | _ => false
  isPt (P : Program) (T : TypeId) : Bool := match P.underlying T with | some (.pointer _) => true | _ => false
  isFn (P : Program) (T : TypeId) : Bool := match P.underlying T with | some (.func _ _ _) => true | _ => false

def binA (P : Program) (T : TypeId) (op : BinOp) (x y : AVal) : Out AVal :=
  match x, y with
  | .d (.int k) a, .d (.int k') b => intOp op k a k' b
  | .d .str a, .d .str b => strOp op a b
  | x, y => match op with
    | .eql => (eqOp P T x y).bind fun b => .ok (.d .bool b)
    | .neq => (eqOp P T x y).bind fun b => .ok (.d .bool (!b))
    | _ => .fail

def unA (op : UnOp) (x : AVal) : Out AVal :=
  match op, x with
  | .not, .d .bool b => .ok (.d .bool (!b))
  | .neg, .d (.int k) n => .ok (.d (.int k) (k.wrap (0 - n)))
  | .xor, .d (.int k) n => .ok (.d (.int k) (bitop .xor k (if k.signed then -1 else k.max) n))
  | _, _ => .fail

def bytesOfStr (s : ByteArray) : List Int := s.data.toList.map fun b => (b.toNat : Int)
def strOfBytes (l : List Int) : ByteArray := ⟨(l.map fun n => UInt8.ofNat n.toNat).toArray⟩

/-- Data that is only looked at now. -/
def AS.peek (s : AS) (t : Ty) (v : AVal) : Out t.den := s.toTy t v

def convB (P : Program) (s : AS) (obj : Bool) (src dst : TypeId) (x : AVal) : Out AVal :=
  match x, P.underlying dst, P.underlying src with
  | .d (.int _) n, some (.int k), some _ => .ok (.d (.int k) (k.wrap n))
  | .d .str a, some .string, some _ => .ok (.d .str a)
  | .d .str a, some (.slice e), some _ => match P.underlying e with
    | some (.int .u8) => match obj with | true => .ok (.sb (bytesOfStr a)) | false => .ok (.d (.slice (.int .u8)) (bytesOfStr a))
    | _ => .fail
  | x, some .string, some (.slice e) => match P.underlying e with
    | some (.int .u8) => (s.peek (.slice (.int .u8)) x).bind fun l => .ok (.d .str (strOfBytes l))
    | _ => .fail
  | _, _, _ => .fail

def convS (P : Program) (src dst : TypeId) (l : List Int) : Out AVal :=
  match P.underlying dst, P.underlying src with
  | some (.slice e), some (.slice _) => match P.underlying e with
    | some (.int .u8) => .guard (src == dst) (.ok (.d (.slice (.int .u8)) l))
    | _ => .fail
  | _, _ => .fail

def convA (P : Program) (s : AS) (obj : Bool) (src dst : TypeId) (x : AVal) : Out AVal :=
  match x with
  | .sb l => convS P src dst l
  | x => convB P s obj src dst x

/-- A row of bytes of one's own, that is told to be a text's. -/
def convK (P : Program) (s : AS) (d : Option Tmp) (src dst : TypeId) (id : Id) (ver len : Nat) : Out AS :=
  match s.obj id, P.underlying dst with
  | some (v, false, .vec _ (.int .u8) l), some (.slice e) => match P.underlying e with
    | some (.int .u8) => .guard ((v == ver) && (src == dst)) (.chk (decide (0 < len ∧ len = (l : List Int).length)) (.ok ((s.setEnt id .dead).put d (.d (.slice (.int .u8)) l))))
    | _ => .fail
  | _, _ => .fail

/-- A pointer as one of no type, and back. -/
def convP (P : Program) (s : AS) (src dst : TypeId) (id : Id) (ver : Nat) : Out AVal :=
  match s.obj id with
  | some (v, _, .bx e c) => match P.underlying src, P.underlying dst with
    | some (.pointer t), some .unsafePointer => .guard ((v == ver) && !(P.cellsOf t == 0) && !(c.size == 0)) (.ok (.ptr id ver [] 0))
    | some .unsafePointer, some (.pointer u) => .guard ((v == ver) && !(P.cellsOf u == 0) && liesAt P P.depth e (c.size / P.cellsOf e) 0 u 1) (.ok (.ptr id ver [] 0))
    | _, _ => .fail
  | _ => .fail

def ptOk (P : Program) (T : TypeId) : Bool := match P.underlying T with | some (.pointer u) => (P.info? u).isSome | _ => false
/-- Two pointers to one object. -/
def eqP (P : Program) (s : AS) (T : TypeId) (op : BinOp) (i : Id) (v : Nat) (j : Id) (w : Nat) : Out AVal :=
  match s.obj i with
  | some (v', _, _) => .guard (decide (i = j) && (v == w) && (v == v') && ptOk P T) (match op with | .eql => .ok (.d .bool true) | .neq => .ok (.d .bool false) | _ => .fail)
  | none => .fail

/-- The bytes of a row as a text: nobody writes the row from then on. -/
def textA (P : Program) (s : AS) (d : Option Tmp) (T : TypeId) (id : Id) (ver : Nat) (n : Int) : Out AS :=
  match s.obj id, P.underlying T with
  | some (v, false, .vec e (.int .u8) l), some (.pointer u) => .guard ((v == ver) && (u == e) && (P.cellsOf e == 1))
      (.chk (decide (0 < n ∧ n ≤ ((l : List Int).length : Int))) (.ok ((s.setEnt id .dead).put d (.d .str (strOfBytes ((l : List Int).take n.toNat))))))
  | _, _ => .fail

def asInt : AVal → Out Int
  | .d (.int _) n => .ok n
  | _ => .fail

/-- A slice expression's bounds over n elements. -/
def bounds (s : AS) (n : Nat) (lo hi : Option Operand) : Out (Nat × Nat) :=
  (match hi with
    | some h => (asInt (s.ev h)).bind fun h => .chk (decide (0 ≤ h ∧ h ≤ (n : Int))) (.ok h.toNat)
    | none => .ok n).bind fun h =>
  (match lo with
    | some l => (asInt (s.ev l)).bind fun l => .chk (decide (0 ≤ l ∧ l ≤ (h : Int))) (.ok l.toNat)
    | none => .ok 0).bind fun l => .ok (l, h)

def elemSize (P : Program) (T : TypeId) : Option Nat :=
  match P.underlying T with
  | some (.array _ e) => match P.cellsOf e with | 0 => none | z + 1 => some (z + 1)
  | some (.slice e) => match P.cellsOf e with | 0 => none | z + 1 => some (z + 1)
  | _ => none

def isArr (P : Program) (T : TypeId) : Option Nat :=
  match P.underlying T with
  | some (.array n _) => some n
  | _ => none

def sliceA (P : Program) (s : AS) (T : TypeId) (x : AVal) (lo hi : Option Operand) : Out AVal :=
  match x with
  | .d .str a => .guard (match P.underlying T with | some .string => true | _ => false) ((bounds s a.size lo hi).bind fun b => .ok (.d .str (a.extract b.1 b.2)))
  | .d (.slice t) l => .guard (match elemSize P T, isArr P T with | some z, none => z == t.size | _, _ => false)
      ((bounds s (l : List t.den).length lo hi).bind fun b => .ok (.d (.slice t) (cut l b.1 (b.2 - b.1))))
  | .nils => .guard (match elemSize P T, isArr P T with | some _, none => true | _, _ => false) ((bounds s 0 lo hi).bind fun _ => .ok .nils)
  | .sref id ver p c i len => (s.row id ver p).bind fun r => .guard (match elemSize P T, isArr P T with | some z, none => z == r.2.1.size | _, _ => false)
      ((bounds s len lo hi).bind fun b => .ok (.sref id ver p (c + b.1 * r.2.1.size) (i + b.1) (b.2 - b.1)))
  | .ptr id ver p n => (s.row id ver p).bind fun r => .guard (match elemSize P T, isArr P T with | some z, some _ => z == r.2.1.size | _, _ => false)
      (.chk (decide (isArr P T = some r.2.2.length ∧ r.1 = n)) ((bounds s ((isArr P T).getD 0) lo hi).bind fun b => .ok (.sref id ver (p ++ [.arr]) (n + b.1 * r.2.1.size) b.1 (b.2 - b.1))))
  | .rptr (.arr n t) l => .guard (match elemSize P T, isArr P T with | some z, some m => (z == t.size) && (m == n) | _, _ => false)
      ((bounds s n lo hi).bind fun b => .ok (.d (.slice t) (cut l b.1 (b.2 - b.1))))
  | _ => .fail

def indexAddrA (P : Program) (s : AS) (T : TypeId) (x : AVal) (i : Int) : Out AVal :=
  match x with
  | .d (.slice t) l => .guard (match elemSize P T, isArr P T with | some z, none => z == t.size | _, _ => false)
      (.chk (decide (0 ≤ i ∧ i < ((l : List t.den).length : Int))) (.ok (.rptr t (nth t l i.toNat))))
  | .rptr (.arr n t) l => .guard (match elemSize P T, isArr P T with | some z, some m => (z == t.size) && (m == n) | _, _ => false)
      (.chk (decide (0 ≤ i ∧ i < (n : Int))) (.ok (.rptr t (nth t l i.toNat))))
  | .sref id ver p c j len => (s.row id ver p).bind fun r => .guard (match elemSize P T, isArr P T with | some z, none => z == r.2.1.size | _, _ => false)
      (.chk (decide (0 ≤ i ∧ i < (len : Int))) (.ok (.ptr id ver (p ++ [.idx (j + i.toNat)]) (c + i.toNat * r.2.1.size))))
  | .ptr id ver p n => .guard (match elemSize P T, isArr P T with | some _, some _ => true | _, _ => false)
      (.chk (decide (0 ≤ i ∧ i < (((isArr P T).getD 0 : Nat) : Int))) (.ok (.ptr id ver (p ++ [.idx i.toNat]) (n + i.toNat * (elemSize P T).getD 0))))
  | _ => .fail

def fieldInfo (P : Program) (T : TypeId) (f : Nat) : Option (Nat × TypeId) :=
  match P.underlying T with
  | some (.struct fs) => match fs[f]? with | some x => some (x.offset, x.type) | none => none
  | _ => none

/-- A part of a struct: where it lies, and what it is. -/
def partOf : AVal → Nat → Option (Nat × AVal)
  | .d (.pair a _) x, 0 => some (0, .d a x.1)
  | .d (.pair a b) x, n + 1 => match partOf (.d b x.2) n with | some (o, v) => some (a.size + o, v) | none => none
  | .pr a _, 0 => some (0, a)
  | .pr a b, n + 1 => match partOf b n with | some (o, v) => some (a.size + o, v) | none => none
  | _, _ => none

def fieldAddrA (P : Program) (T : TypeId) (x : AVal) (f : Nat) : Out AVal :=
  match fieldInfo P T f with
  | some (o, ft) => .guard (!(P.cellsOf ft == 0)) (match x with
    | .ptr id ver p n => .ok (.ptr id ver (p ++ fieldPath f) (n + o))
    | .rptr t x => match partOf (.d t x) f with
      | some (o', .d t' y) => .guard (o == o') (.ok (.rptr t' y))
      | _ => .fail
    | _ => .fail)
  | none => .fail

def fieldA (P : Program) (T : TypeId) (x : AVal) (f : Nat) : Out AVal :=
  match fieldInfo P T f, partOf x f with
  | some (o, ft), some (o', v) => .guard ((o == o') && fits P ft v) (.ok v)
  | _, _ => .fail

def indexA (P : Program) (T : TypeId) (x : AVal) (i : Int) : Out AVal :=
  match x, P.underlying T with
  | .d (.arr n t) l, some (.array m e) => .guard ((n == m) && fits P e (.d t t.zero)) (.chk (decide (0 ≤ i ∧ i < (n : Int))) (.ok (.d t (nth t l i.toNat))))
  | .d .str a, some .string => .chk (decide (0 ≤ i ∧ i < (a.size : Int))) (.ok (.d (.int .u8) ((a.data.toList.getD i.toNat 0).toNat : Int)))
  | _, _ => .fail

def loadA (P : Program) (s : AS) (T : TypeId) (x : AVal) : Out AVal :=
  match x with
  | .ptr id ver p n => match s.obj id with
    | some (v, _, c) => .guard (v == ver) ((loc c.strip p).bind fun r => .guard (fits P T r.2) (.chk (decide (r.1 = n)) (.ok r.2)))
    | none => .fail
  | .rptr t y => .guard (fits P T (.d t y)) (.ok (.d t y))
  | _ => .fail

def storeA (P : Program) (s : AS) (T : TypeId) (x v : AVal) : Out AS :=
  match x with
  | .ptr id ver p n => match s.obj id with
    | some (ve, fr, c) => .guard ((ve == ver) && !fr && fits P T v) ((loc c.strip p).bind fun r => .guard (fits P T r.2) (.chk (decide (r.1 = n)) ((upd c.strip p v).bind fun c' => .ok (s.setEnt id (.obj ve fr (c.wrap c'))))))
    | none => .fail
  | _ => .fail

def lenA (P : Program) (T : TypeId) (x : AVal) : Out AVal :=
  match P.underlying T, x with
  | some .string, .d .str a => .ok (.d (.int .i64) (a.size : Int))
  | some (.slice _), .d (.slice t) l => .ok (.d (.int .i64) ((l : List t.den).length : Int))
  | some (.slice _), .nils => .ok (.d (.int .i64) (0 : Int))
  | some (.slice _), .sref _ _ _ _ _ len => .ok (.d (.int .i64) (len : Int))
  | some (.array n _), _ => .ok (.d (.int .i64) (n : Int))
  | _, _ => .fail

/-- The elements that are put behind. -/
def moreA (P : Program) (s : AS) (t : Ty) (X : TypeId) (x : AVal) : Out (List t.den) :=
  match x with
  | .d .str a => match P.underlying X with
    | some .string => Out.opt (castTy (.slice (.int .u8)) (.slice t) (bytesOfStr a))
    | _ => .fail
  | x => match P.underlying X with
    | some (.slice _) => s.peek (.slice t) x
    | _ => .fail

def roomA (n b : Nat) : Bool := decide (n * b ≤ 140737488355328 ∧ n ≤ 9223372036854775807)

/-- What the program says of an element: its type, its size and its bytes, if they fit one another. -/
def elemOfT (P : Program) (T : TypeId) : Option (TypeId × Ty × Nat) :=
  match P.underlying T with
  | some (.slice e) => match tyOf P depth e with
    | some t => match (P.cellsOf e == t.size) && !(t.size == 0) && zchk P e (.d t t.zero) with | true => some (e, t, P.bytesOf e) | false => none
    | none => none
  | _ => none

/-- So many zeros behind nothing. -/
def growA (P : Program) (s : AS) (dst : Option Tmp) (T X : TypeId) (n : Int) : Out AS :=
  match elemOfT P T, dst, P.underlying X with
  | some (e, t, b), some q, some (.int _) => .guard (s.virgin q) (.chk (decide (0 < n) && roomA n.toNat b)
      (.ok ((s.born q [.obj 0 false (.vec e t (List.replicate n.toNat t.zero))]).put dst (.sref (.new q 0) 0 [] 0 0 n.toNat))))
  | _, _, _ => .fail

def minA (mx : Bool) : List AVal → Out AVal
  | [.d (.int k) x, .d (.int k') y] => .guard (decide (k = k')) (.ok (.d (.int k) (match mx with | true => (if x < y then y else x) | false => (if y < x then y else x))))
  | _ => .fail

def appendA (P : Program) (s : AS) (dst : Option Tmp) (T X : TypeId) (x y : AVal) : Out AS :=
  match elemOfT P T, dst with
  | some (e, t, b), some q => (moreA P s t X y).bind fun m =>
    match x with
    | .nils => .guard (s.virgin q) (.chk (roomA m.length b) (.ok ((s.born q [.obj 0 false (.vec e t m)]).put dst (.sref (.new q 0) 0 [] 0 0 m.length))))
    | .sref id ver [] 0 0 len => match s.obj id with
      | some (v, fr, .vec e' t' l) => .guard ((v == ver) && (e == e')) ((Out.opt (castTy (.slice t') (.slice t) l)).bind fun l =>
          .chk (decide (len ≤ l.length)) <| .chk ((!fr) || decide (len = l.length)) (.chk (roomA (len + m.length) b)
            (.ok ((s.setEnt id (.obj (v + 1) fr (.vec e t (l.take len ++ m)))).put dst (.sref id (v + 1) [] 0 0 (len + m.length))))))
      | _ => .fail
    | _ => .fail
  | _, _ => .fail

/-- Parts of an array, by their places. -/
def setParts (t : Ty) (s : AS) : List (Nat × Operand) → List t.den → Out (List t.den × List Id)
  | [], l => .ok (l, [])
  | (i, x) :: ps, l => .guard (decide (i < l.length)) ((s.toTy t (s.ev x)).bind fun y => (setParts t s ps (l.set i y)).bind fun r => .ok (r.1, (s.ev x).shared ++ r.2))

def setFields (P : Program) (fs : Array Field) (s : AS) : List (Nat × Operand) → AVal → Out AVal
  | [], v => .ok v
  | (i, x) :: ps, v => match fs[i]?, partOf v i with
    | some f, some (o, old) => .guard ((f.offset == o) && fits P f.type old && fits P f.type (s.ev x)) ((upd v (fieldPath i) (s.ev x)).bind fun v' => setFields P fs s ps v')
    | _, _ => .fail

def buildA (P : Program) (s : AS) (dst : Option Tmp) (T : TypeId) (parts : List (Nat × Operand)) : Out AS :=
  match P.underlying T with
  | some (.struct fs) => match zeroOf P depth T with
    | some z => .guard (zchk P T z && z.agg && fs.toList.all fun f => (P.info? f.type).isSome)
        ((setFields P fs s parts z).bind fun v => .ok (s.put dst v))
    | none => .fail
  | some (.array n e) => match tyOf P depth e with
    | some t => .guard ((P.cellsOf e == t.size) && zchk P T (.d (.arr n t) (List.replicate n t.zero))) ((setParts t s parts (List.replicate n t.zero)).bind fun r => .ok ((s.freezeAll r.2).put dst (.d (.arr n t) r.1)))
    | none => .fail
  | _ => .fail

def buildSliceA (P : Program) (s : AS) (obj : Bool) (dst : Option Tmp) (T : TypeId) (n : Nat) (parts : List (Nat × Operand)) : Out AS :=
  match elemOfT P T, dst with
  | some (e, t, _), some q => .guard (decide (n * t.size ≤ 16777216)) ((setParts t s parts (List.replicate n t.zero)).bind fun r =>
      match obj with
      | true => .guard (s.virgin q) (.ok (((s.freezeAll r.2).born q [.obj 0 false (.vec e t r.1)]).put dst (.sref (.new q 0) 0 [] 0 0 r.1.length)))
      | false => .ok ((s.freezeAll r.2).put dst (.d (.slice t) r.1)))
  | _, _ => .fail

def makeSliceA (P : Program) (s : AS) (dst : Option Tmp) (T : TypeId) (len cap : Int) : Out AS :=
  match elemOfT P T, dst with
  | some (e, t, b), some q => .guard (s.virgin q) (.chk (decide (0 ≤ len ∧ len ≤ cap) && roomA cap.toNat b)
      (.ok ((s.born q [.obj 0 false (.vec e t (List.replicate len.toNat t.zero))]).put dst (.sref (.new q 0) 0 [] 0 0 len.toNat))))
  | _, _ => .fail

/-- Has a struct a pointer to its like? Then its box's type is kept in mind. -/
def selfish (P : Program) (T : TypeId) : Bool :=
  match P.underlying T with
  | some (.struct fs) => fs.toList.any fun f => match P.underlying f.type with | some (.pointer u) => decide (u = T) | _ => false
  | _ => false
def boxed (P : Program) (T : TypeId) (z : AVal) : AVal := match selfish P T with | true => .bx T z | false => z

def boxA (P : Program) (s : AS) (obj : Bool) (dst : Option Tmp) (T : TypeId) (v : AVal) : Out AS :=
  match dst with
  | some q => match obj with
    | true => .guard (s.virgin q && fits P T v) (.ok ((s.born q [.obj 0 false v]).put dst (.ptr (.new q 0) 0 [] 0)))
    | false => match tyOf P depth T with
      | some t => .guard (fits P T (.d t t.zero)) ((s.toTy t v).bind fun x => .ok ((s.freezeAll v.shared).put dst (.rptr t x)))
      | none => .fail
  | none => .fail

def toArrA (P : Program) (s : AS) (dst : Option Tmp) (T : TypeId) (x : AVal) : Out AS :=
  match P.underlying T with
  | some (.array n e) => match tyOf P depth e with
    | some t => .guard ((P.cellsOf e == t.size) && !(n == 0) && !(t.size == 0)) ((s.toTy (.slice t) x).bind fun l => .chk (decide (n ≤ (l : List t.den).length)) (.ok ((s.freezeAll x.shared).put dst (.rptr (.arr n t) (l.take n)))))
    | none => .fail
  | _ => .fail

def capsOf (s : AS) : List Operand → AVal
  | [] => .nil
  | x :: xs => .cons (s.ev x) (capsOf s xs)

def celledList : AVal → Bool
  | .cons a b => a.celled && celledList b
  | .nil => true
  | _ => false

def pickA (c a b : AVal) : Out AVal :=
  match c with
  | .d .bool c => match a, b with
    | .d .bool x, .d .bool y => .ok (.d .bool (bif c then x else y))
    | a, b => .br c (.ok a) (.ok b)
  | _ => .fail

def isObj (objs : List Nat) : Option Tmp → Bool
  | some q => objs.any fun x => decide (x = q)
  | none => false

/-- One operation. 'objs': the sites whose boxes and slices are objects. -/
def aop (P : Program) (Γ : Gam) (objs : List Nat) (o : Oper) (s : AS) : Out AS :=
  match o.op with
  | .move x => .ok (s.put o.dst (s.ev x))
  | .assign x => .ok (s.put o.dst (s.ev x))
  | .pick c a b => (pickA (s.ev c) (s.ev a) (s.ev b)).bind fun v => .ok (s.put o.dst v)
  | .alloc T => match zeroOf P depth T, o.dst with
    | some z, some q => .guard (s.virgin q && zchk P T z) (.ok ((s.born q [.obj 0 false (boxed P T z)]).put o.dst (.ptr (.new q 0) 0 [] 0)))
    | _, _ => .fail
  | .box T x => boxA P s (isObj objs o.dst) o.dst T (s.ev x)
  | .build T parts => buildA P s o.dst T parts.toList
  | .buildSlice T n parts => buildSliceA P s (isObj objs o.dst) o.dst T n parts.toList
  | .load T x => (loadA P s T (s.ev x)).bind fun v => .ok (s.put o.dst v)
  | .store T x v => (storeA P s T (s.ev x) (s.ev v)).bind fun s' => .ok (s'.put o.dst .undef)
  | .nilCheck x => match s.ev x with
    | .ptr id v p n => .ok (s.put o.dst (.ptr id v p n))
    | .rptr t y => .ok (s.put o.dst (.rptr t y))
    | .fn f c => .ok (s.put o.dst (.fn f c))
    | _ => .fail
  | .binOp op T x y _ => match s.ev x, s.ev y with
    | .ptr i v [] 0, .ptr j w [] 0 => (eqP P s T op i v j w).bind fun v => .ok (s.put o.dst v)
    | _, _ => (binA P T op (s.ev x) (s.ev y)).bind fun v => .ok (s.put o.dst v)
  | .unOp op _ x => (unA op (s.ev x)).bind fun v => .ok (s.put o.dst v)
  | .convert src dst x => match src == dst, s.ev x with
    | true, .sref id ver [] 0 0 len => convK P s o.dst src dst id ver len
    | _, .ptr id ver [] 0 => (convP P s src dst id ver).bind fun v => .ok (s.put o.dst v)
    | _, _ => (convA P s (isObj objs o.dst) src dst (s.ev x)).bind fun v => .ok (s.put o.dst v)
  | .sliceToArrayPointer T x => toArrA P s o.dst T (s.ev x)
  | .makeFunc (.func f) first caps => .guard (first.isEmpty && celledList (capsOf s caps.toList)) (.ok (s.put o.dst (.fn f (capsOf s caps.toList))))
  | .makeSlice T l c => (asInt (s.ev l)).bind fun l => (asInt (s.ev c)).bind fun c => makeSliceA P s o.dst T l c
  | .slice T x lo hi none => (sliceA P s T (s.ev x) lo hi).bind fun v => .ok (s.put o.dst v)
  | .fieldAddr T x f => (fieldAddrA P T (s.ev x) f).bind fun v => .ok (s.put o.dst v)
  | .field T x f => (fieldA P T (s.ev x) f).bind fun v => .ok (s.put o.dst v)
  | .indexAddr T x i => (asInt (s.ev i)).bind fun i => (indexAddrA P s T (s.ev x) i).bind fun v => .ok (s.put o.dst v)
  | .index T x i => (asInt (s.ev i)).bind fun i => (indexA P T (s.ev x) i).bind fun v => .ok (s.put o.dst v)
  | .extract x i => (Out.opt ((s.ev x).list[i]?)).bind fun v => .ok (s.put o.dst v)
  | .call c => match c.callee with
    | .builtin .len => match c.args.toList, c.argTypes.toList with
      | [x], [T] => (lenA P T (s.ev x)).bind fun v => .ok (s.put o.dst v)
      | _, _ => .fail
    | .builtin .append => match c.args.toList, c.argTypes.toList with
      | [x, y], [T, X] => match s.ev x, s.ev y with
        | .nils, .d (.int _) n => growA P s o.dst T X n
        | _, _ => appendA P s o.dst T X (s.ev x) (s.ev y)
      | _, _ => .fail
    | .builtin .cap => match c.args.toList, c.argTypes.toList with
      | [x], [T] => match s.ev x, P.underlying T with
        | .nils, some (.slice _) => .ok (s.put o.dst (.d (.int .i64) (0 : Int)))
        | _, _ => .fail
      | _, _ => .fail
    | .builtin .max => (minA true (c.args.toList.map s.ev)).bind fun v => .ok (s.put o.dst v)
    | .builtin .min => (minA false (c.args.toList.map s.ev)).bind fun v => .ok (s.put o.dst v)
    | .builtin .unsafeSliceData => match c.args.toList with
      | [x] => match s.ev x with
        | .sref id ver [] 0 0 len => .chk (decide (0 < len)) (.ok (s.put o.dst (.ptr id ver [.idx 0] 0)))
        | _ => .fail
      | _ => .fail
    | .builtin .unsafeString => match c.args.toList, c.argTypes.toList with
      | [x, y], [T, _] => match s.ev x, s.ev y with
        | .ptr id ver [.idx 0] 0, .d (.int .i64) n => textA P s o.dst T id ver n
        | _, _ => .fail
      | _, _ => .fail
    | .value f => match s.ev f with
      | .fn f caps => match Γ f (c.args.toList.map s.ev ++ caps.list) with
        | some en => s.call en o.dst (c.args.toList.map s.ev ++ caps.list)
        | none => .fail
      | _ => .fail
    | _ => .fail
  | _ => .fail

/-! ### Regions -/

/-- The slots that an operation looks at. -/
def opSlots (xs : Array Operand) : List Nat := xs.toList.filterMap fun | .tmp t => some t | _ => none

def guardSlot (ops : Array Oper) (o : Oper) : List Nat :=
  match o.guard with
  | some (j, _) => match (ops[j]?).bind (·.dst) with | some t => [t] | none => []
  | none => []

def gop {R : Type} (P : Program) (Γ : Gam) (objs : List Nat) (ops : Array Oper) (o : Oper) (s : AS) (k : AS → Option R) : Option R :=
  match o.guard with
  | none => (aop P Γ objs o s).run k
  | some (j, want) => match (ops[j]?).bind (·.dst) with
    | some q => match s.slot q with
      | .d .bool b => match want with
        | true => sel b ((aop P Γ objs o (s.put (some q) (.d .bool true))).run k) (k ((s.put (some q) (.d .bool false)).put o.dst .nil))
        | false => sel b (k ((s.put (some q) (.d .bool true)).put o.dst .nil)) ((aop P Γ objs o (s.put (some q) (.d .bool false))).run k)
      | .nil => k (s.put o.dst .nil)
      | _ => none
    | none => none

/-- Is a slice that is data held against nil: how long is it? -/
def nilArg (s : AS) (x y : Operand) : Option Nat :=
  match s.ev x, s.ev y with
  | .d (.slice t) l, .nils => some (l : List t.den).length
  | .nils, .d (.slice t) l => some (l : List t.den).length
  | _, _ => none

open Classical in
/-- Two ways, of which nobody knows which one is gone: what comes must be the same. -/
noncomputable def nd {R : Type} (x y : Option R) : Option R := if x = y then x else none

/-- One operation, in a region that goes in the order of its text: a test of data against nil may go both ways. -/
noncomputable def gopN {R : Type} (P : Program) (Γ : Gam) (objs : List Nat) (ops : Array Oper) (o : Oper) (s : AS) (k : AS → Option R) : Option R :=
  match o.guard, o.op with
  | none, .binOp .eql T x y _ => match nilArg s x y, eqOp.isSl P T with
    | some n, true => sel (decide (0 < n)) (k (s.put o.dst (.d .bool false))) (nd (k (s.put o.dst (.d .bool true))) (k (s.put o.dst (.d .bool false))))
    | _, _ => gop P Γ objs ops o s k
  | none, .binOp .neq T x y _ => match nilArg s x y, eqOp.isSl P T with
    | some n, true => sel (decide (0 < n)) (k (s.put o.dst (.d .bool true))) (nd (k (s.put o.dst (.d .bool true))) (k (s.put o.dst (.d .bool false))))
    | _, _ => gop P Γ objs ops o s k
  | _, _ => gop P Γ objs ops o s k

/-- A list, looked at to its end: for the kernel's sake. -/
noncomputable def seen {α R : Type} (l : List α) : (List α → R) → R := List.rec (motive := fun _ => (List α → R) → R) (fun k => k []) (fun x _ ih k => ih fun l' => k (x :: l')) l
theorem seen_eq {α R : Type} : ∀ (l : List α) (k : List α → R), seen l k = k l
  | [], _ => rfl
  | _ :: l, k => seen_eq l _
noncomputable def AS.seen {R : Type} (s : AS) (k : AS → R) : R := Go.Ab.seen s.slots fun l => k ⟨l, s.olds, s.news⟩
theorem AS.seen_eq {R : Type} (s : AS) (k : AS → R) : s.seen k = k s := Go.Ab.seen_eq _ _

noncomputable def gops {R : Type} (P : Program) (Γ : Gam) (objs : List Nat) (ops : Array Oper) : List Oper → AS → (AS → Option R) → Option R
  | [], s, k => k s
  | o :: l, s, k => gopN P Γ objs ops o s fun s' => s'.seen fun s' => gops P Γ objs ops l s' k

/-- Everything that stands before an operation, by the edges: a number, bit by bit. -/
def ancF (acc : List Nat) (o : Oper) : Nat := (o.after.toList.filter (Region.binds .any)).foldr (fun e m => Nat.lor (Nat.lor (Nat.pow 2 e.on) (acc.getD e.on 0)) m) 0
def ancs (ops : List Oper) : List Nat := ops.foldl (fun acc o => acc ++ [ancF acc o]) []

/-- What an operation looks at and what it writes. -/
structure Foot where
  dst : Option Tmp
  slots : List Nat
  rs : List Id
  ws : List Id

def opIds (s : AS) (o : Oper) : List Id := (opSlots o.op.operands).flatMap fun i => (s.slot i).ids

/-- The ids in arguments that are lent. -/
def lendIds : List (Option Ty) → List AVal → List Id
  | none :: ps, v :: vs => v.ids ++ lendIds ps vs
  | some _ :: ps, _ :: vs => lendIds ps vs
  | _, _ => []

def writes (Γ : Gam) (s : AS) (o : Oper) : List Id :=
  match o.op with
  | .store _ x _ => (s.ev x).ids
  | .convert src dst x => match src == dst with | true => (s.ev x).ids | false => []
  | .call c => match c.callee with
    | .builtin .append => match c.args.toList with | x :: _ => (s.ev x).ids | [] => []
    | .builtin .unsafeString => match c.args.toList with | x :: _ => (s.ev x).ids | [] => []
    | .value F => match s.ev F with
      | .fn f caps => match Γ f (c.args.toList.map s.ev ++ caps.list) with
        | some en => s.reach 64 (lendIds en.params (c.args.toList.map s.ev ++ caps.list)) []
        | none => []
      | _ => []
    | _ => []
  | _ => []

def foot (Γ : Gam) (ops : Array Oper) (s : AS) (o : Oper) : Foot :=
  { dst := o.dst, slots := opSlots o.op.operands ++ guardSlot ops o, rs := opIds s o ++ writes Γ s o, ws := writes Γ s o }

def meets (xs ys : List Id) : Bool := xs.any fun x => ys.any fun y => decide (x = y)

def Foot.hit (f g : Foot) : Bool :=
  match f.dst with
  | some t => (g.slots.any fun x => decide (x = t)) || decide (g.dst = some t)
  | none => false

/-- Is one of the ids of the site that the operation may make objects at? -/
def siteIn (d : Option Tmp) (ids : List Id) : Bool :=
  match d with
  | some q => ids.any fun x => match x with | .new i _ => decide (i = q) | .old _ => false
  | none => false

/-- May the two change places? -/
def Foot.indep (f g : Foot) : Bool := !f.hit g && !g.hit f && !meets f.ws g.rs && !meets g.ws f.rs && !siteIn f.dst g.rs && !siteIn g.dst f.rs

/-- Each pair that no edge orders may change places. -/
noncomputable def gopsD {R : Type} (P : Program) (Γ : Gam) (objs : List Nat) (ops : Array Oper) (anc : List Nat) : Nat → List Oper → List (Nat × Foot) → AS → (AS → Option R) → Option R
  | _, [], _, s, k => k s
  | i, o :: l, fs, s, k =>
    match fs.all fun x => (anc.getD i 0).testBit x.1 || x.2.indep (foot Γ ops s o) with
    | true => gop P Γ objs ops o s fun s' => s'.seen fun s' => gopsD P Γ objs ops anc (i + 1) l ((i, foot Γ ops s o) :: fs) s' k
    | false => none

/-- The edges that bind go back. -/
def edgesOk (ops : List Oper) : Bool := ops.zipIdx.all fun x => x.1.after.toList.all fun e => !Region.binds .any e || decide (e.on < x.2)

/-! ### Control -/

/-- A place that may hold nil, and is taken for an empty slice of a site, of a slice type; or holds an object, that becomes the site's. -/
structure Own' where
  j : Nat
  p : List Stp
  q : Nat
  T : TypeId

/-- A place, and the type as which what stands there is taken as data. -/
structure Dat where
  j : Nat
  p : List Stp
  t : Ty

structure LoopAnn where
  /-- The slots that stay. -/
  keep : List Nat
  /-- The sites whose objects stay. -/
  sites : List Nat
  /-- Objects that are marked. -/
  frz : List Id
  /-- Slots that are taken as data. -/
  data : List (Nat × Ty)
  /-- Slots that may be nil, and are taken for an empty slice of a site, of a slice type. -/
  owns : List Own'
  dats : List Dat := []

/-- What is known of a loop. -/
structure LEntry where
  X : Type
  run : AS → Option X
  out : X → Out (Exit × AS)

/-- Where ways come together: all that stays of their ends. -/
structure Join where
  an : LoopAnn
  X : Type
  inn : Exit → AS → Option X
  out : X → Out (Exit × AS)
  ok : ∀ e s x, inn e s = some x → (out x).eval = some (e, s)

structure Ann where
  objs : List Nat
  loops : Nat → LoopAnn
  outs : Nat → Bool → LoopAnn
  sums : Nat → Option LEntry
  /-- Results that may be nil, and are taken for an empty slice of a site. -/
  owns : List Own'
  /-- Results whose rows are cut to their lengths. -/
  trim : List Nat
  /-- Results that are taken as data. -/
  res : List (Option Ty)
  dats : List Dat := []
  /-- Behind a region; ahead of what a region begins. -/
  joinR : Nat → Option Join := fun _ => none
  joinS : Nat → Option Join := fun _ => none

def firstRegion : Code → Nat
  | .region id _ _ => id
  | .seq a _ => firstRegion a
  | .block _ b => firstRegion b
  | .loop b => firstRegion b
  | .scope b => firstRegion b
  | _ => 0

def keepSlots (keep : List Nat) : Nat → List AVal → List AVal
  | _, [] => []
  | i, v :: vs => (match keep.any (fun x => decide (x = i)) with | true => v | false => .undef) :: keepSlots keep (i + 1) vs

def keepSites (keep : List Nat) : Nat → List (List Ent) → List (List Ent)
  | _, [] => []
  | i, v :: vs => (match keep.any (fun x => decide (x = i)) with | true => v | false => []) :: keepSites keep (i + 1) vs

def AVal.noRef (id : Id) : AVal → Bool
  | .ptr i _ _ _ => !decide (i = id)
  | .sref i _ _ _ _ _ => !decide (i = id)
  | .pr a b => a.noRef id && b.noRef id
  | .cons a b => a.noRef id && b.noRef id
  | .fn _ c => c.noRef id
  | .bx _ c => c.noRef id
  | _ => true

def Ent.noRef (id : Id) : Ent → Bool
  | .obj _ _ c => c.noRef id
  | .dead => true

def AS.noRef (s : AS) (id : Id) : Bool := s.slots.all (AVal.noRef id) && s.olds.all (Ent.noRef id) && s.news.all fun es => es.all (Ent.noRef id)

/-- The object that a value holds as a whole. -/
def AVal.head : AVal → Option (Id × Nat)
  | .sref id ver [] 0 0 _ => some (id, ver)
  | .ptr id ver [] 0 => some (id, ver)
  | _ => none
def single (l : Option (List Ent)) : Bool := match l with | some [_] => true | _ => false
/-- May the object of a site become that of another one? -/
def AS.movable (s : AS) (q b : Nat) : Bool := single s.news[b]? && (decide (b = q) || single s.news[q]? || s.virgin q)
/-- An object's new name, of its newest version. -/
def renTo (id : Id) (v q : Nat) (i : Id) (ver : Nat) : Option (Id × Nat) :=
  match decide (i = id) with
  | true => (match ver == v with | true => some (.new q 0, 0) | false => none)
  | false => (match decide (i = .new q 0) with | true => none | false => some (i, ver))
def Ent.ren (ρ : Id → Nat → Option (Id × Nat)) : Ent → Ent
  | .obj v fr c => .obj v fr (c.ren ρ)
  | .dead => .dead
def AS.renum (s : AS) (b v q : Nat) (fr : Bool) (c : AVal) : AS :=
  { slots := s.slots.map (AVal.ren (renTo (.new b 0) v q)), olds := s.olds.map (Ent.ren (renTo (.new b 0) v q)),
    news := ((s.news.map fun es => es.map (Ent.ren (renTo (.new b 0) v q))).set b []).set q [.obj 0 fr (c.ren (renTo (.new b 0) v q))] }

/-- What stands at a place: in a slot, or within what the slot points to. -/
def AS.at (s : AS) (j : Nat) : List Stp → Out AVal
  | [] => .ok (s.slot j)
  | p => match s.slot j with
    | .ptr id ver [] 0 => match s.obj id with
      | some (v, _, c) => .guard (v == ver) ((loc c.strip p).bind fun r => .ok r.2)
      | none => .fail
    | _ => .fail
/-- An empty slice in the place of nil. -/
def AS.putAt (s : AS) (j : Nat) (v : AVal) : List Stp → Out AS
  | [] => .ok (s.put (some j) v)
  | p => match s.slot j with
    | .ptr id _ [] 0 => match s.obj id with
      | some (ver, fr, c) => match c.strip with
        | .vec .. => .fail
        | c1 => (upd c1 p v).bind fun c' => .ok (s.setEnt id (.obj ver fr (c.wrap c')))
      | none => .fail
    | _ => .fail

/-- Places as data. -/
def datsA (s : AS) : List Dat → Out AS
  | [] => .ok s
  | o :: l => (s.at o.j o.p).bind fun u => (s.toTy o.t u).bind fun x => ((s.freezeAll u.shared).putAt o.j (.d o.t x) o.p).bind fun s' => datsA s' l

def promote (P : Program) (s : AS) : List Own' → Out AS
  | [] => .ok s
  | o :: l => (s.at o.j o.p).bind fun u => match u with
    | .nils => match elemOfT P o.T, s.virgin o.q with
      | some (e, t, _), true => ((s.born o.q [.obj 0 false (.vec e t [])]).putAt o.j (.sref (.new o.q 0) 0 [] 0 0 0) o.p).bind fun s' => promote P s' l
      | _, _ => .fail
    | u => match u.head with
      | some (.new b 0, ver) => match s.obj (.new b 0), s.movable o.q b with
        | some (v, fr, c), true => match v == ver with
          | true => promote P (s.renum b v o.q fr c) l
          | false => .fail
        | _, _ => .fail
      | _ => .fail

/-- Rows that are cut to the length of a slice. -/
def trimA (s : AS) : List Nat → Out AS
  | [] => .ok s
  | j :: l => match s.slot j with
    | .sref id ver [] 0 0 len => match s.obj id with
      | some (v, false, .vec e t r) => match v == ver with
        | true => .chk (decide (len ≤ r.length)) (trimA (s.setEnt id (.obj v false (.vec e t (r.take len)))) l)
        | false => .fail
      | _ => .fail
    | _ => .fail

/-- Slots as data. -/
def asData (s : AS) : List (Nat × Ty) → Out AS
  | [] => .ok s
  | (j, t) :: l => (s.toTy t (s.slot j)).bind fun x => asData ((s.freezeAll (s.slot j).shared).put (some j) (.d t x)) l

/-- Does every reference go to an object that is there? -/
def AVal.there (s : AS) : AVal → Bool
  | .ptr id _ _ _ => (s.obj id).isSome
  | .sref id _ _ _ _ _ => (s.obj id).isSome
  | .pr a b => a.there s && b.there s
  | .cons a b => a.there s && b.there s
  | .fn _ c => c.there s
  | .bx _ c => c.there s
  | _ => true

def Ent.there (s : AS) : Ent → Bool
  | .obj _ _ c => c.there s
  | .dead => true

def keepOnly (an : LoopAnn) (s : AS) : AS := { slots := keepSlots an.keep 0 s.slots, olds := s.olds, news := keepSites an.sites 0 s.news }

def AS.allThere (s : AS) : Bool := (s.slots.all (AVal.there s)) && (s.olds.all (Ent.there s)) && (s.news.all fun es => es.all (Ent.there s))

/-- What is left of a state at a loop's head, or behind it. -/
def norm (P : Program) (an : LoopAnn) (s : AS) : Out AS :=
  (datsA (s.freezeAll an.frz) an.dats).bind fun s => (asData s an.data).bind fun s => .guard (keepOnly an s).allThere (promote P (keepOnly an s) an.owns)

def loopS {R : Type} (nrm : AS → Out AS) (nrmX : Exit → AS → Out AS) (body : AS → (Exit → AS → Option R) → Option R) : Nat → AS → (Exit → AS → Option R) → Option R
  | 0, _, _ => none
  | n + 1, s, k => body s fun e s' => match e with
    | .normal => (nrm s').run fun s1 => loopS nrm nrmX body n s1 k
    | e => (nrmX e s').run (k e)

def isRet : Exit → Bool | .ret => true | _ => false

def useSum {R : Type} (le : LEntry) (s : AS) (k : Exit → AS → Option R) : Option R := obind (le.run s) fun x => (le.out x).run fun r => k r.1 r.2

def joined {R : Type} (P : Program) (j : Option Join) (run : {R : Type} → (Exit → AS → Option R) → Option R) (k : Exit → AS → Option R) : Option R :=
  match j with
  | none => run k
  | some j => obind (run fun e s => (norm P j.an s).run (j.inn e)) fun x => (j.out x).run fun r => k r.1 r.2

noncomputable def ev (P : Program) (Γ : Gam) (an : Ann) (N : Nat) : Code → {R : Type} → AS → (Exit → AS → Option R) → Option R
  | .skip, _, s, k => k .normal s
  | .region id ops draw, _, s, k => joined P (an.joinR id) (fun k => match draw with
    | true => (match edgesOk ops.toList with
      | true => gopsD P Γ an.objs ops (ancs ops.toList) 0 ops.toList [] s fun s' => k .normal s'
      | false => none)
    | false => gops P Γ an.objs ops ops.toList s fun s' => k .normal s') k
  | .seq a b, _, s, k => joined P (an.joinS (firstRegion b)) (fun k => ev P Γ an N a s k) fun e s' => match e with | .normal => ev P Γ an N b s' k | e => k e s'
  | .cond c x y, _, s, k => match s.ev c with
    | .d .bool b => sel b (ev P Γ an N x s k) (ev P Γ an N y s k)
    | _ => none
  | .block id b, _, s, k => ev P Γ an N b s fun e s' => match e with | .exit i => (match decide (i = id) with | true => k .normal s' | false => k (.exit i) s') | e => k e s'
  | .loop b, _, s, k => (norm P (an.loops (firstRegion b)) s).run fun s1 => match an.sums (firstRegion b) with
    | some le => useSum le s1 k
    | none => loopS (norm P (an.loops (firstRegion b))) (fun e => norm P (an.outs (firstRegion b) (isRet e))) (ev P Γ an N b) N s1 k
  | .scope b, _, s, k => ev P Γ an N b s fun e s' => match e with | .goto _ => none | e => k e s'
  | .label _, _, s, k => k .normal s
  | .exit id, _, s, k => k (.exit id) s
  | .ret, _, s, k => k .ret s
  | _, _, _, _ => none

/-! ### Functions -/

def resVal (P : Program) (s : AS) : ResultVar → Out AVal
  | .tmp t => .ok (s.slot t)
  | .cell a T => loadA P s T (s.slot a)

/-- A result, as data or as it is. -/
def resOne (P : Program) (s : AS) (r : ResultVar) : Option Ty → Out (AS × AVal)
  | none => (resVal P s r).bind fun v => .ok (s, v)
  | some t => (resVal P s r).bind fun v => (s.toTy t v).bind fun x => .ok (s.freezeAll v.shared, .d t x)

def resVals (P : Program) (s : AS) : List ResultVar → List (Option Ty) → Out (AS × AVal)
  | [], _ => .ok (s, .nil)
  | r :: rs, ts => (resOne P s r (ts.headD none)).bind fun x => .guard x.2.celled ((resVals P x.1 rs ts.tail).bind fun y => .ok (y.1, .cons x.2 y.2))

def resultA (P : Program) (fn : Func) (ts : List (Option Ty)) (s : AS) : Out (AS × AVal) :=
  match fn.results.toList with
  | [r] => resOne P s r (ts.headD none)
  | rs => resVals P s rs ts

/-- The bodies of all loops. -/
def loopsOf : Code → List Code
  | .seq a b => loopsOf a ++ loopsOf b
  | .cond _ a b => loopsOf a ++ loopsOf b
  | .block _ b => loopsOf b
  | .scope b => loopsOf b
  | .loop b => b :: loopsOf b
  | _ => []

def fnLoop (fn : Func) (i : Nat) : Code := match fn.body with | some c => (loopsOf c).getD i .skip | none => .skip

/-- One round of a loop of a function. -/
noncomputable def lround (P : Program) (Γ : Gam) (an : Ann) (N : Nat) (fn : Func) (i : Nat) {R : Type} (s : AS) (kn : AS → Option R) (kx : Exit → AS → Option R) : Option R :=
  ev P Γ an N (fnLoop fn i) s fun e s' => match e with
    | .normal => (norm P (an.loops (firstRegion (fnLoop fn i))) s').run kn
    | e => (norm P (an.outs (firstRegion (fnLoop fn i)) (isRet e)) s').run (kx e)

/-- All rounds. -/
noncomputable def lrun (P : Program) (Γ : Gam) (an : Ann) (N : Nat) (fn : Func) (i : Nat) {R : Type} (n : Nat) (s : AS) (k : Exit → AS → Option R) : Option R :=
  loopS (norm P (an.loops (firstRegion (fnLoop fn i)))) (fun e => norm P (an.outs (firstRegion (fnLoop fn i)) (isRet e))) (ev P Γ an N (fnLoop fn i)) n s k

def Id.isNew : Id → Bool | .new _ _ => true | .old _ => false

/-- The ids of a function's end: what it was lent, and what it made that can be reached. -/
def AS.finIds (s : AS) (v : AVal) : List Id := (s.reach 64 (v.ids ++ s.olds.flatMap Ent.ids) []).filter Id.isNew

def finRef (ids : List Id) : Id → Nat → Option (Id × Nat)
  | .old k, v => some (.old k, v)
  | id, v => match idxOf id ids with | some j => some (.new 0 j, v) | none => none

def Ent.fin (ids : List Id) : Ent → Ent
  | .obj v fr c => .obj v fr (c.ren (finRef ids))
  | .dead => .dead

def AS.finAt (s : AS) (ids : List Id) (v : AVal) : GRes :=
  { val := v.ren (finRef ids), olds := s.olds.map (Ent.fin ids), news := ids.map fun id => ((s.ent id).getD .dead).fin ids }

def AS.fin (s : AS) (v : AVal) : GRes := s.finAt (s.finIds v) v

def start (fn : Func) (args : List AVal) (olds : List Ent) : AS :=
  { slots := args ++ List.replicate (fn.ntmps - args.length) .undef, olds, news := List.replicate fn.ntmps [] }

def resSlots (fn : Func) : List Nat := fn.results.toList.map fun r => match r with | .tmp t => t | .cell a _ => a
def AS.drop (s : AS) (ks : List Nat) : AS := { slots := keepSlots ks 0 s.slots, olds := s.olds, news := s.news }

/-- What a function leaves. -/
def finish (P : Program) (an : Ann) (fn : Func) (s : AS) : Out GRes :=
  (datsA s an.dats).bind fun s => (promote P (s.drop (resSlots fn)) an.owns).bind fun s => (trimA s an.trim).bind fun s => (resultA P fn an.res s).bind fun r => .ok (r.1.fin r.2)

/-- A function's run. -/
noncomputable def arun (P : Program) (Γ : Gam) (an : Ann) (N : Nat) (fn : Func) (args : List AVal) (olds : List Ent) {R : Type} (k : GRes → Option R) : Option R :=
  match fn.body with
  | some c => ev P Γ an N c (start fn args olds) fun e s => match e with
    | .normal => (finish P an fn s).run k
    | .ret => (finish P an fn s).run k
    | _ => none
  | none => none

end Go.Ab
/-
  How abstract values lie in memory: the relation, and its plain laws.
-/
namespace Go.Ab

inductive Own where
  | foreign
  | id (i : Id)

/-- Who may write a block: nobody; or one, but for its first cells. -/
inductive Lab where
  | free
  | own (o : Own) (k : Nat)

structure Pl where
  b : Nat
  cap : Nat

structure Env where
  w : World
  g : Nat → Lab
  β : Id → Option Pl
  s : Id → Option Ent

def okAt (g : Nat → Lab) (b off : Nat) : Prop := match g b with | .free => True | .own _ k => off < k

/-- Cells that data may hang on: they are there, and nobody writes them. -/
def Env.has (E : Env) (b off : Nat) (v : Value) : Prop := E.w.cell? ⟨b, off, none⟩ = some v ∧ okAt E.g b off

def Chunks {α : Type} (R : List Value → α → Prop) : List Value → List α → Prop
  | cs, [] => cs = []
  | cs, x :: xs => ∃ c cs', cs = c ++ cs' ∧ R c x ∧ Chunks R cs' xs

def RowAt (E : Env) (a : Option Addr) (vs : List Value) : Prop :=
  ∀ i v, vs[i]? = some v → ∃ b off, a = some ⟨b, off, none⟩ ∧ E.has b (off + i) v

def Rep (E : Env) : (t : Ty) → List Value → t.den → Prop
  | .int k, cs, x => cs = [.int k x]
  | .bool, cs, x => cs = [.bool x]
  | .str, cs, x => cs = [.string x]
  | .slice t, cs, l => ∃ a cap vs, cs = [.slice a (l : List t.den).length cap] ∧ (l : List t.den).length ≤ cap ∧ (0 < (l : List t.den).length → a.isSome = true) ∧ RowAt E a vs ∧ Chunks (Rep E t) vs l
  | .unit, cs, _ => cs = []
  | .pair a b, cs, x => ∃ ca cb, cs = ca ++ cb ∧ Rep E a ca x.1 ∧ Rep E b cb x.2
  | .arr n t, cs, l => (l : List t.den).length = n ∧ Chunks (Rep E t) cs l

/-! ### Chunks -/

section
variable {α : Type} {R R' : List Value → α → Prop} {z : Nat}

theorem Chunks.mono (h : ∀ c x, R c x → R' c x) : ∀ {cs : List Value} {l : List α}, Chunks R cs l → Chunks R' cs l
  | _, [], hc => hc
  | _, _ :: _, ⟨c, cs', e, hx, hr⟩ => ⟨c, cs', e, h _ _ hx, Chunks.mono h hr⟩

theorem Chunks.length (h : ∀ c x, R c x → c.length = z) : ∀ {cs : List Value} {l : List α}, Chunks R cs l → cs.length = l.length * z
  | cs, [], hc => by
    have : cs = [] := hc
    simp [this]
  | _, x :: xs, ⟨c, cs', e, hx, hr⟩ => by
    rw [e, List.length_append, h c x hx, Chunks.length h hr, List.length_cons, Nat.add_mul, Nat.one_mul, Nat.add_comm]

theorem Chunks.all {p : Value → Prop} (h : ∀ c x, R c x → ∀ v ∈ c, p v) : ∀ {cs : List Value} {l : List α}, Chunks R cs l → ∀ v ∈ cs, p v
  | cs, [], hc, v, hv => by
    have : cs = [] := hc
    simp [this] at hv
  | _, _ :: _, ⟨c, cs', e, hx, hr⟩, v, hv => by
    rw [e] at hv
    rcases List.mem_append.1 hv with hv | hv
    · exact h _ _ hx v hv
    · exact Chunks.all h hr v hv

theorem Chunks.append : ∀ {cs : List Value} {l : List α} {cs' : List Value} {l' : List α}, Chunks R cs l → Chunks R cs' l' → Chunks R (cs ++ cs') (l ++ l')
  | cs, [], _, _, hc, h' => by
    have : cs = [] := hc
    simpa [this] using h'
  | _, x :: xs, _, _, ⟨c, cs1, e, hx, hr⟩, h' => ⟨c, cs1 ++ _, by rw [e, List.append_assoc], hx, Chunks.append hr h'⟩

theorem Chunks.take (h : ∀ c x, R c x → c.length = z) : ∀ {cs : List Value} {l : List α} (n : Nat), Chunks R cs l → Chunks R (cs.take (n * z)) (l.take n)
  | cs, [], n, hc => by
    have : cs = [] := hc
    simp [this, Chunks]
  | _, x :: xs, 0, _ => by simp [Chunks]
  | _, x :: xs, n + 1, ⟨c, cs', e, hx, hr⟩ => by
    refine ⟨c, cs'.take (n * z), ?_, hx, Chunks.take h n hr⟩
    rw [e, List.take_append, h c x hx, Nat.add_mul, Nat.one_mul, List.take_of_length_le (by rw [h c x hx]; omega), Nat.add_sub_cancel]

theorem Chunks.drop (h : ∀ c x, R c x → c.length = z) : ∀ {cs : List Value} {l : List α} (n : Nat), Chunks R cs l → Chunks R (cs.drop (n * z)) (l.drop n)
  | cs, [], n, hc => by
    have : cs = [] := hc
    simp [this, Chunks]
  | _, x :: xs, 0, hc => by simpa using hc
  | _, x :: xs, n + 1, ⟨c, cs', e, hx, hr⟩ => by
    rw [e, List.drop_append, h c x hx, Nat.add_mul, Nat.one_mul, List.drop_of_length_le (by rw [h c x hx]; omega), Nat.add_sub_cancel]
    simpa using Chunks.drop h n hr

theorem Chunks.get (h : ∀ c x, R c x → c.length = z) {cs : List Value} {l : List α} (hc : Chunks R cs l) (i : Nat) (hi : i < l.length) : R ((cs.drop (i * z)).take z) l[i] := by
  have h1 := Chunks.take h 1 (Chunks.drop h i hc)
  rw [List.drop_eq_getElem_cons hi] at h1
  simp only [Nat.one_mul, List.take_succ_cons, List.take_zero] at h1
  obtain ⟨c, cs', e, hx, hr⟩ := h1
  have : cs' = [] := hr
  rw [e, this, List.append_nil]
  exact hx

theorem Chunks.set (h : ∀ c x, R c x → c.length = z) {cs : List Value} {l : List α} (hc : Chunks R cs l) (i : Nat) (hi : i < l.length) {c : List Value} {x : α} (hx : R c x) :
    Chunks R (cs.take (i * z) ++ c ++ cs.drop (i * z + c.length)) (l.set i x) := by
  rw [List.set_eq_take_append_cons_drop, if_pos hi, h c x hx]
  have h1 := Chunks.take h i hc
  have h2 := Chunks.drop h (i + 1) hc
  rw [Nat.add_mul, Nat.one_mul] at h2
  have h3 : Chunks R (c ++ cs.drop (i * z + z)) (x :: l.drop (i + 1)) := ⟨c, _, rfl, hx, h2⟩
  rw [List.append_assoc]
  exact Chunks.append h1 h3

theorem Chunks.one {c : List Value} {x : α} (h : R c x) : Chunks R c [x] := ⟨c, [], by simp, h, rfl⟩
end

/-! ### Data -/

theorem Rep.size {E : Env} : ∀ {t : Ty} {cs : List Value} {x : t.den}, Rep E t cs x → cs.length = t.size
  | .int _, _, _, h => by simp only [Rep] at h; simp [h, Ty.size]
  | .bool, _, _, h => by simp only [Rep] at h; simp [h, Ty.size]
  | .str, _, _, h => by simp only [Rep] at h; simp [h, Ty.size]
  | .slice t, _, _, h => by simp only [Rep] at h; obtain ⟨a, cap, vs, rfl, _⟩ := h; simp [Ty.size]
  | .unit, _, _, h => by simp only [Rep] at h; simp [h, Ty.size]
  | .pair a b, _, _, h => by
    simp only [Rep] at h
    obtain ⟨ca, cb, rfl, ha, hb⟩ := h
    simp [Ty.size, Rep.size ha, Rep.size hb]
  | .arr n t, _, _, h => by
    simp only [Rep] at h
    rw [Chunks.length (fun c x hx => Rep.size hx) h.2, h.1, Ty.size]

theorem Rep.one {E : Env} : ∀ {t : Ty} {cs : List Value} {x : t.den}, Rep E t cs x → ∀ c ∈ cs, c.oneCell' = true
  | .int _, _, _, h => by simp only [Rep] at h; simp [h, Value.oneCell']
  | .bool, _, _, h => by simp only [Rep] at h; simp [h, Value.oneCell']
  | .str, _, _, h => by simp only [Rep] at h; simp [h, Value.oneCell']
  | .slice t, _, _, h => by simp only [Rep] at h; obtain ⟨a, cap, vs, rfl, _⟩ := h; simp [Value.oneCell']
  | .unit, _, _, h => by simp only [Rep] at h; simp [h]
  | .pair a b, _, _, h => by
    simp only [Rep] at h
    obtain ⟨ca, cb, rfl, ha, hb⟩ := h
    intro c hc
    rcases List.mem_append.1 hc with hc | hc
    · exact Rep.one ha c hc
    · exact Rep.one hb c hc
  | .arr n t, _, _, h => by
    simp only [Rep] at h
    exact Chunks.all (fun c x hx => Rep.one hx) h.2

structure MemLe (E E' : Env) : Prop where
  has : ∀ b off v, E.has b off v → E'.has b off v
  fz : ∀ b ob, E.g b = .free → E.w.heap[b]? = some ob → E'.g b = .free ∧ E'.w.heap[b]? = some ob

theorem MemLe.refl (E : Env) : MemLe E E := ⟨fun _ _ _ h => h, fun _ _ h h' => ⟨h, h'⟩⟩
theorem MemLe.trans {E E' E'' : Env} (h : MemLe E E') (h' : MemLe E' E'') : MemLe E E'' := ⟨fun b o v x => h'.has b o v (h.has b o v x), fun b ob h1 h2 => let ⟨h3, h4⟩ := h.fz b ob h1 h2; h'.fz b ob h3 h4⟩

theorem RowAt.mono {E E' : Env} (h : MemLe E E') {a : Option Addr} {vs : List Value} (hr : RowAt E a vs) : RowAt E' a vs :=
  fun i v hv => let ⟨b, off, ha, hh⟩ := hr i v hv; ⟨b, off, ha, h.has _ _ _ hh⟩

theorem Rep.mono {E E' : Env} (hm : MemLe E E') : ∀ {t : Ty} {cs : List Value} {x : t.den}, Rep E t cs x → Rep E' t cs x
  | .int _, _, _, h => by simpa only [Rep] using h
  | .bool, _, _, h => by simpa only [Rep] using h
  | .str, _, _, h => by simpa only [Rep] using h
  | .slice t, _, _, h => by
    simp only [Rep] at h ⊢
    obtain ⟨a, cap, vs, e, hl, hs, hr, hc⟩ := h
    exact ⟨a, cap, vs, e, hl, hs, hr.mono hm, hc.mono fun c x hx => Rep.mono hm hx⟩
  | .unit, _, _, h => by simpa only [Rep] using h
  | .pair a b, _, _, h => by
    simp only [Rep] at h ⊢
    obtain ⟨ca, cb, e, ha, hb⟩ := h
    exact ⟨ca, cb, e, Rep.mono hm ha, Rep.mono hm hb⟩
  | .arr n t, _, _, h => by
    simp only [Rep] at h ⊢
    exact ⟨h.1, h.2.mono fun c x hx => Rep.mono hm hx⟩

/-! ### Values -/

def Env.cur (E : Env) (id : Id) (ver : Nat) : Prop := ∃ fr c, E.s id = some (.obj ver fr c)
def Env.bnd (E : Env) (id : Id) (ver : Nat) : Prop := E.s id ≠ none ∧ ∀ v fr c, E.s id = some (.obj v fr c) → ver ≤ v

def OfCells (agg : Bool) (cs : List Value) (v : Value) : Prop := match agg with | true => v = .agg cs.toArray | false => cs = [v]

mutual
def V (E : Env) : AVal → List Value → Prop
  | .undef, _ => False
  | .gone, cs => ∃ v, cs = [v] ∧ v.oneCell' = true
  | .nils, cs => cs = [.slice none 0 0]
  | .nilp, cs => cs = [.pointer none]
  | .nilf, cs => cs = [.nilFunc]
  | .nilm, cs => cs = [.map none]
  | .sb l, cs => ∃ (b cap : Nat) (arr : Array Value) (e : TypeId), cs = [.slice (some ⟨b, 0, none⟩) l.length cap] ∧ l.length ≤ cap ∧ E.g b = .free ∧ E.w.heap[b]? = some (.cells arr e (arr.size, arr.size + 1)) ∧ ∀ (j : Nat) (v : Value), (l.map (Value.int .u8))[j]? = some v → arr[j]? = some v
  | .d t x, cs => Rep E t cs x
  | .pr a b, cs => ∃ ca cb, cs = ca ++ cb ∧ V E a ca ∧ V E b cb
  | .ptr id ver _ n, cs => ∃ a, cs = [.pointer (some a)] ∧ E.bnd id ver ∧ (E.cur id ver → ∃ pl, E.β id = some pl ∧ a = ⟨pl.b, n, none⟩)
  | .rptr t x, cs => ∃ b off vs, cs = [.pointer (some ⟨b, off, none⟩)] ∧ RowAt E (some ⟨b, off, none⟩) vs ∧ Rep E t vs x
  | .sref id ver p c i len, cs => ∃ a cap, cs = [.slice a len cap] ∧ len ≤ cap ∧ (0 < len → a.isSome = true) ∧ E.bnd id ver ∧
      (E.cur id ver → match E.β id with
        | some pl => (0 < len ∨ i = 0 → a = some ⟨pl.b, c, none⟩) ∧ (p = [] → i = 0 → cap = pl.cap)
        | none => a = none ∧ len = 0 ∧ cap = 0)
  | .fn f c, cs => ∃ vs, cs = [.func (.func f) #[] vs.toArray] ∧ VC E c vs
  | .cons _ _, _ => False
  | .nil, _ => False
  | .vec .., _ => False
  | .bx _ _, _ => False
def VC (E : Env) : AVal → List Value → Prop
  | .nil, vs => vs = []
  | .cons a b, vs => ∃ v vs' cs, vs = v :: vs' ∧ V E a cs ∧ OfCells a.agg cs v ∧ VC E b vs'
  | _, _ => False
end

structure EnvLe (E E' : Env) : Prop where
  mem : MemLe E E'
  bnd : ∀ id ver, E.bnd id ver → E'.bnd id ver
  cur : ∀ id ver, E.bnd id ver → E'.cur id ver → E.cur id ver ∧ E'.β id = E.β id

theorem EnvLe.refl (E : Env) : EnvLe E E := ⟨MemLe.refl E, fun _ _ h => h, fun _ _ _ h => ⟨h, rfl⟩⟩
theorem EnvLe.trans {E E' E'' : Env} (h : EnvLe E E') (h' : EnvLe E' E'') : EnvLe E E'' :=
  ⟨h.mem.trans h'.mem, fun id v b => h'.bnd id v (h.bnd id v b), fun id v b c =>
    let ⟨c1, e1⟩ := h'.cur id v (h.bnd id v b) c
    let ⟨c2, e2⟩ := h.cur id v b c1
    ⟨c2, e1.trans e2⟩⟩

mutual
theorem V.mono {E E' : Env} (h : EnvLe E E') : ∀ {a : AVal} {cs : List Value}, V E a cs → V E' a cs
  | .undef, _, hv => by simp only [V] at hv
  | .gone, _, hv => by simpa only [V] using hv
  | .nils, _, hv => by simpa only [V] using hv
  | .nilp, _, hv => by simpa only [V] using hv
  | .nilf, _, hv => by simpa only [V] using hv
  | .nilm, _, hv => by simpa only [V] using hv
  | .sb l, _, hv => by
    simp only [V] at hv ⊢
    obtain ⟨b, cap, arr, e, h1, h2, h3, h4, h5⟩ := hv
    obtain ⟨h6, h7⟩ := h.mem.fz b _ h3 h4
    exact ⟨b, cap, arr, e, h1, h2, h6, h7, h5⟩
  | .d t x, _, hv => by simp only [V] at hv ⊢; exact hv.mono h.mem
  | .pr a b, _, hv => by
    simp only [V] at hv ⊢
    obtain ⟨ca, cb, e, ha, hb⟩ := hv
    exact ⟨ca, cb, e, V.mono h ha, V.mono h hb⟩
  | .ptr id ver p n, _, hv => by
    simp only [V] at hv ⊢
    obtain ⟨a, e, hb, hc⟩ := hv
    refine ⟨a, e, h.bnd _ _ hb, fun c => ?_⟩
    obtain ⟨c1, e1⟩ := h.cur _ _ hb c
    rw [e1]; exact hc c1
  | .rptr t x, _, hv => by
    simp only [V] at hv ⊢
    obtain ⟨b, off, vs, e, hr, hx⟩ := hv
    exact ⟨b, off, vs, e, hr.mono h.mem, hx.mono h.mem⟩
  | .sref id ver p c i len, _, hv => by
    simp only [V] at hv ⊢
    obtain ⟨a, cap, e, hl, hs, hb, hc⟩ := hv
    refine ⟨a, cap, e, hl, hs, h.bnd _ _ hb, fun c => ?_⟩
    obtain ⟨c1, e1⟩ := h.cur _ _ hb c
    rw [e1]; exact hc c1
  | .fn f c, _, hv => by
    simp only [V] at hv ⊢
    obtain ⟨vs, e, hc⟩ := hv
    exact ⟨vs, e, VC.mono h hc⟩
  | .cons _ _, _, hv => by simp only [V] at hv
  | .nil, _, hv => by simp only [V] at hv
  | .vec .., _, hv => by simp only [V] at hv
  | .bx .., _, hv => by simp only [V] at hv
theorem VC.mono {E E' : Env} (h : EnvLe E E') : ∀ {a : AVal} {vs : List Value}, VC E a vs → VC E' a vs
  | .nil, _, hv => by simpa only [VC] using hv
  | .cons a b, _, hv => by
    simp only [VC] at hv ⊢
    obtain ⟨v, vs', cs, e, ha, ho, hb⟩ := hv
    exact ⟨v, vs', cs, e, V.mono h ha, ho, VC.mono h hb⟩
  | .undef, _, hv => by simp only [VC] at hv
  | .gone, _, hv => by simp only [VC] at hv
  | .nils, _, hv => by simp only [VC] at hv
  | .nilp, _, hv => by simp only [VC] at hv
  | .nilf, _, hv => by simp only [VC] at hv
  | .nilm, _, hv => by simp only [VC] at hv
  | .sb _, _, hv => by simp only [VC] at hv
  | .d t x, _, hv => by simp only [VC] at hv
  | .pr a b, _, hv => by simp only [VC] at hv
  | .ptr .., _, hv => by simp only [VC] at hv
  | .rptr .., _, hv => by simp only [VC] at hv
  | .sref .., _, hv => by simp only [VC] at hv
  | .fn .., _, hv => by simp only [VC] at hv
  | .vec .., _, hv => by simp only [VC] at hv
  | .bx .., _, hv => by simp only [VC] at hv
end

theorem V.size {E : Env} : ∀ {a : AVal} {cs : List Value}, V E a cs → cs.length = a.size
  | .undef, _, hv => by simp only [V] at hv
  | .gone, _, hv => by simp only [V] at hv; obtain ⟨v, rfl, _⟩ := hv; rfl
  | .nils, _, hv => by simp only [V] at hv; rw [hv]; rfl
  | .nilp, _, hv => by simp only [V] at hv; rw [hv]; rfl
  | .nilf, _, hv => by simp only [V] at hv; rw [hv]; rfl
  | .nilm, _, hv => by simp only [V] at hv; rw [hv]; rfl
  | .sb _, _, hv => by simp only [V] at hv; obtain ⟨_, _, _, _, rfl, _⟩ := hv; rfl
  | .d t x, _, hv => by simp only [V] at hv; exact hv.size
  | .pr a b, _, hv => by
    simp only [V] at hv
    obtain ⟨ca, cb, rfl, ha, hb⟩ := hv
    simp [AVal.size, V.size ha, V.size hb]
  | .ptr .., _, hv => by simp only [V] at hv; obtain ⟨a, rfl, _⟩ := hv; rfl
  | .rptr .., _, hv => by simp only [V] at hv; obtain ⟨_, _, _, rfl, _⟩ := hv; rfl
  | .sref .., _, hv => by simp only [V] at hv; obtain ⟨_, _, rfl, _⟩ := hv; rfl
  | .fn .., _, hv => by simp only [V] at hv; obtain ⟨_, rfl, _⟩ := hv; rfl
  | .cons _ _, _, hv => by simp only [V] at hv
  | .nil, _, hv => by simp only [V] at hv
  | .vec .., _, hv => by simp only [V] at hv
  | .bx .., _, hv => by simp only [V] at hv

theorem V.one {E : Env} : ∀ {a : AVal} {cs : List Value}, V E a cs → ∀ c ∈ cs, c.oneCell' = true
  | .undef, _, hv => by simp only [V] at hv
  | .gone, _, hv => by simp only [V] at hv; obtain ⟨v, rfl, h⟩ := hv; simp [h]
  | .nils, _, hv => by simp only [V] at hv; rw [hv]; simp [Value.oneCell']
  | .nilp, _, hv => by simp only [V] at hv; rw [hv]; simp [Value.oneCell']
  | .nilf, _, hv => by simp only [V] at hv; rw [hv]; simp [Value.oneCell']
  | .nilm, _, hv => by simp only [V] at hv; rw [hv]; simp [Value.oneCell']
  | .sb _, _, hv => by simp only [V] at hv; obtain ⟨_, _, _, _, rfl, _⟩ := hv; simp [Value.oneCell']
  | .d t x, _, hv => by simp only [V] at hv; exact hv.one
  | .pr a b, _, hv => by
    simp only [V] at hv
    obtain ⟨ca, cb, rfl, ha, hb⟩ := hv
    intro c hc
    rcases List.mem_append.1 hc with hc | hc
    · exact V.one ha c hc
    · exact V.one hb c hc
  | .ptr .., _, hv => by simp only [V] at hv; obtain ⟨a, rfl, _⟩ := hv; simp [Value.oneCell']
  | .rptr .., _, hv => by simp only [V] at hv; obtain ⟨_, _, _, rfl, _⟩ := hv; simp [Value.oneCell']
  | .sref .., _, hv => by simp only [V] at hv; obtain ⟨_, _, rfl, _⟩ := hv; simp [Value.oneCell']
  | .fn .., _, hv => by simp only [V] at hv; obtain ⟨_, rfl, _⟩ := hv; simp [Value.oneCell']
  | .cons _ _, _, hv => by simp only [V] at hv
  | .nil, _, hv => by simp only [V] at hv
  | .vec .., _, hv => by simp only [V] at hv
  | .bx .., _, hv => by simp only [V] at hv

theorem AVal.size_one : ∀ {v : AVal}, v.agg = false → v.size = 1
  | .d (.int _) _, _ | .d .bool _, _ | .d .str _, _ | .d (.slice _) _, _ => rfl
  | .d .unit _, h | .d (.pair _ _) _, h | .d (.arr _ _) _, h => by simp [AVal.agg, Ty.agg] at h
  | .pr _ _, h => by simp [AVal.agg] at h
  | .undef, _ | .gone, _ | .nils, _ | .nilp, _ | .nilf, _ | .nilm, _ | .ptr .., _ | .rptr .., _ | .sref .., _ | .fn .., _ | .cons .., _ | .nil, _ | .vec .., _ | .sb _, _ | .bx .., _ => rfl

/-- What a slot holds. -/
def VS (E : Env) : AVal → Value → Prop
  | .undef, _ => True
  | .cons a b, v => ∃ vs, v = .tuple vs.toArray ∧ VC E (.cons a b) vs
  | .nil, v => v = .tuple #[]
  | a, v => ∃ cs, V E a cs ∧ OfCells a.agg cs v

theorem VS.mono {E E' : Env} (h : EnvLe E E') : ∀ {a : AVal} {v : Value}, VS E a v → VS E' a v := by
  intro a v hv
  cases a <;> first
    | trivial
    | exact hv
    | (obtain ⟨cs, h1, h2⟩ := hv; exact ⟨cs, V.mono h h1, h2⟩)
    | (obtain ⟨vs, e, hc⟩ := hv; exact ⟨vs, e, VC.mono h hc⟩)

theorem VS.undef {E : Env} {v : Value} : VS E .undef v := trivial

theorem VS.of {E : Env} {a : AVal} {cs : List Value} {v : Value} (h : V E a cs) (ho : OfCells a.agg cs v) : VS E a v := by
  cases a <;> first
    | (simp only [V] at h; done)
    | exact ⟨cs, h, ho⟩

theorem VS.celled {E : Env} {a : AVal} {v : Value} (h : VS E a v) (hc : a.celled = true) : ∃ cs, V E a cs ∧ OfCells a.agg cs v := by
  cases a <;> first
    | (simp [AVal.celled] at hc; done)
    | exact h

/-- The one cell of a value that is no struct and no array. -/
theorem VS.single {E : Env} {a : AVal} {v : Value} (h : VS E a v) (hc : a.celled = true) (ha : a.agg = false) : V E a [v] := by
  obtain ⟨cs, hv, ho⟩ := h.celled hc
  rw [ha] at ho
  have : cs = [v] := ho
  rw [← this]; exact hv

theorem OfCells.cells {agg : Bool} {cs : List Value} {v : Value} (h : OfCells agg cs v) (h1 : ∀ c ∈ cs, c.oneCell' = true) : v.cells = cs.toArray := by
  cases agg with
  | true => have : v = .agg cs.toArray := h; rw [this]; rfl
  | false =>
    have e : cs = [v] := h
    have := h1 v (by simp [e])
    rw [e]
    cases v <;> first | rfl | (simp [Value.oneCell'] at this; done)

end Go.Ab

/-
  Outcomes; looking into contents and changing them; objects; what a step may do to memory.
-/
namespace Go.Ab

/-! ### Outcomes -/

section
variable {α β : Type}
theorem eval_ok {a b : α} : (Out.ok a).eval = some b ↔ a = b := by simp [Out.eval]
theorem eval_fail {b : α} : (Out.fail : Out α).eval = some b ↔ False := by simp [Out.eval]
theorem eval_chk {c : Bool} {r : Out α} {b : α} : (Out.chk c r).eval = some b ↔ c = true ∧ r.eval = some b := by cases c <;> simp [Out.eval]
theorem eval_guard {c : Bool} {r : Out α} {b : α} : (Out.guard c r).eval = some b ↔ c = true ∧ r.eval = some b := by cases c <;> simp [Out.guard, Out.eval]
theorem eval_get {x : Option β} {f : β → Out α} {b : α} : (Out.get x f).eval = some b ↔ ∃ y, x = some y ∧ (f y).eval = some b := by
  cases x <;> simp [Out.eval]
theorem eval_opt {x : Option α} {b : α} : (Out.opt x).eval = some b ↔ x = some b := by cases x <;> simp [Out.opt, Out.eval]
theorem eval_bind_eq (o : Out α) (f : α → Out β) : (o.bind f).eval = o.eval.bind fun a => (f a).eval := by
  induction o with
  | ok a => rfl
  | fail => rfl
  | chk c r ih => cases c <;> simp [Out.bind, Out.eval, ih]
  | get x g ih => cases x <;> simp [Out.bind, Out.eval, ih]
  | br c x y ih1 ih2 => cases c <;> simp [Out.bind, Out.eval, ih1, ih2]
theorem eval_bind {o : Out α} {f : α → Out β} {b : β} : (o.bind f).eval = some b ↔ ∃ a, o.eval = some a ∧ (f a).eval = some b := by
  rw [eval_bind_eq]; simp [Option.bind_eq_some_iff]

theorem run_eq {R : Type} (o : Out α) (k : α → Option R) : o.run k = o.eval.bind k := by
  induction o with
  | ok a => rfl
  | fail => rfl
  | chk c r ih => cases c <;> simp [Out.run, Out.eval, sel, ih]
  | get x g ih => cases x <;> simp [Out.run, Out.eval, obind, ih]
  | br c x y ih1 ih2 => cases c <;> simp [Out.run, Out.eval, sel, ih1, ih2]
theorem run_some {R : Type} {o : Out α} {k : α → Option R} {r : R} : o.run k = some r ↔ ∃ a, o.eval = some a ∧ k a = some r := by
  rw [run_eq]; simp [Option.bind_eq_some_iff]
end

theorem castTy_some {t t' : Ty} {x : t.den} {y : t'.den} (h : castTy t t' x = some y) : ∃ e : t = t', e ▸ x = y := by
  unfold castTy at h
  split at h
  · rename_i e; exact ⟨e, by simpa using h⟩
  · cases h

/-! ### Contents -/

def VO (E : Env) : AVal → List Value → Prop
  | .vec _ t l, cs => Chunks (Rep E t) cs l
  | a, cs => V E a cs

theorem VO.of {E : Env} {a : AVal} {cs : List Value} (h : V E a cs) : VO E a cs := by
  cases a <;> first | exact h | (simp only [V] at h)

def AVal.isVec : AVal → Bool | .vec .. => true | _ => false

theorem VO.to {E : Env} {a : AVal} {cs : List Value} (h : VO E a cs) (hn : a.isVec = false) : V E a cs := by
  cases a <;> first | exact h | (simp [AVal.isVec] at hn)

theorem VO.mono {E E' : Env} (h : EnvLe E E') {a : AVal} {cs : List Value} (hv : VO E a cs) : VO E' a cs := by
  cases a <;> first | exact V.mono h hv | exact Chunks.mono (fun _ _ hx => hx.mono h.mem) hv

theorem nth_eq {t : Ty} {l : List t.den} {i : Nat} (h : i < l.length) : nth t l i = l[i] := by
  unfold nth; simp [h]

theorem part_mid {α : Type} (cs : List α) (n m k j : Nat) (h : k + j ≤ m) : (((cs.drop n).take m).drop k).take j = (cs.drop (n + k)).take j := by
  rw [List.drop_take, List.take_take, List.drop_drop]
  congr 1
  omega

theorem row_part {E : Env} {t : Ty} {cs : List Value} {l : List t.den} (h : Chunks (Rep E t) cs l) {i : Nat} (hi : i < l.length) :
    Rep E t ((cs.drop (i * t.size)).take t.size) l[i] ∧ i * t.size + t.size ≤ cs.length := by
  have hz : ∀ c x, Rep E t c x → c.length = t.size := fun c x hx => hx.size
  refine ⟨h.get hz i hi, ?_⟩
  rw [h.length hz, ← Nat.succ_mul]
  exact Nat.mul_le_mul_right _ hi

/-- The part of a content that a path leads to. -/
theorem loc_sound {E : Env} : ∀ (p : List Stp) (c : AVal) (cs : List Value) (n : Nat) (v : AVal), VO E c cs → (loc c p).eval = some (n, v) →
    (n = 0 ∧ v = c) ∨ (V E v ((cs.drop n).take v.size) ∧ n + v.size ≤ cs.length)
  | [], c, cs, n, v, hc, h => by
    left
    simp only [loc, eval_ok, Prod.mk.injEq] at h
    exact ⟨h.1.symm, h.2.symm⟩
  | st :: p, c, cs, n, v, hc, h => by
    by_cases hst : st = .arr
    · subst hst
      have h' : (loc c p).eval = some (n, v) := by cases c <;> simpa only [loc] using h
      exact loc_sound p c cs n v hc h'
    right
    have whole : ∀ (c' : AVal) (cs' : List Value) (n' : Nat) (v' : AVal), V E c' cs' → (loc c' p).eval = some (n', v') → V E v' ((cs'.drop n').take v'.size) ∧ n' + v'.size ≤ cs'.length := by
      intro c' cs' n' v' hc' hl
      rcases loc_sound p c' cs' n' v' (VO.of hc') hl with ⟨rfl, rfl⟩ | hh
      · have := hc'.size
        rw [List.drop_zero, List.take_of_length_le (by omega)]
        exact ⟨hc', by omega⟩
      · exact hh
    have second : ∀ (a b : AVal) (ca cb : List Value), cs = ca ++ cb → ca.length = a.size → V E b cb → ((loc b p).bind fun (n, v) => Out.ok (a.size + n, v)).eval = some (n, v) →
        V E v ((cs.drop n).take v.size) ∧ n + v.size ≤ cs.length := by
      intro a b ca cb e hl hb hh
      obtain ⟨⟨n', v'⟩, h1, h2⟩ := eval_bind.1 hh
      simp only [eval_ok, Prod.mk.injEq] at h2
      obtain ⟨rfl, rfl⟩ := h2
      obtain ⟨h3, h4⟩ := whole b cb n' v' hb h1
      subst e
      rw [← hl, List.drop_append, List.drop_of_length_le (by omega), List.nil_append, Nat.add_sub_cancel_left]
      exact ⟨h3, by simp only [List.length_append]; omega⟩
    have elem : ∀ (t : Ty) (l : List t.den) (i : Nat), Chunks (Rep E t) cs l → (Out.chk (decide (i < l.length)) ((loc (.d t (nth t l i)) p).bind fun (n, v) => Out.ok (i * t.size + n, v))).eval = some (n, v) →
        V E v ((cs.drop n).take v.size) ∧ n + v.size ≤ cs.length := by
      intro t l i hch hh
      obtain ⟨hi, hh⟩ := eval_chk.1 hh
      have hi : i < l.length := by simpa using hi
      obtain ⟨⟨n', v'⟩, h1, h2⟩ := eval_bind.1 hh
      simp only [eval_ok, Prod.mk.injEq] at h2
      obtain ⟨rfl, rfl⟩ := h2
      obtain ⟨hp, hle⟩ := row_part hch hi
      rw [nth_eq hi] at h1
      have hv : V E (.d t l[i]) ((cs.drop (i * t.size)).take t.size) := by simpa only [V] using hp
      obtain ⟨h3, h4⟩ := whole _ _ n' v' hv h1
      have hlen : ((cs.drop (i * t.size)).take t.size).length = t.size := hp.size
      rw [part_mid _ _ _ _ _ (by omega)] at h3
      exact ⟨h3, by omega⟩
    cases c with
    | pr a b =>
      simp only [VO, V] at hc
      obtain ⟨ca, cb, e, ha, hb⟩ := hc
      cases st with
      | arr => exact absurd rfl hst
      | fst =>
        simp only [loc] at h
        obtain ⟨h3, h4⟩ := whole a ca n v ha h
        subst e
        refine ⟨?_, by simp only [List.length_append]; omega⟩
        rw [List.drop_append, List.take_append, List.length_drop, Nat.sub_eq_zero_of_le (by omega : v.size ≤ ca.length - n), List.take_zero, List.append_nil]
        exact h3
      | snd => simp only [loc] at h; exact second a b ca cb e ha.size hb h
      | idx i => simp only [loc, eval_fail] at h
    | d t x =>
      simp only [VO, V] at hc
      cases t with
      | pair ta tb =>
        simp only [Rep] at hc
        obtain ⟨ca, cb, e, ha, hb⟩ := hc
        cases st with
        | arr => exact absurd rfl hst
        | fst =>
          simp only [loc] at h
          obtain ⟨h3, h4⟩ := whole (.d ta x.1) ca n v (by simpa only [V] using ha) h
          subst e
          refine ⟨?_, by simp only [List.length_append]; omega⟩
          rw [List.drop_append, List.take_append, List.length_drop, Nat.sub_eq_zero_of_le (by omega : v.size ≤ ca.length - n), List.take_zero, List.append_nil]
          exact h3
        | snd => simp only [loc] at h; exact second (.d ta x.1) (.d tb x.2) ca cb e ha.size (by simpa only [V] using hb) h
        | idx i => simp only [loc, eval_fail] at h
      | arr m t =>
        simp only [Rep] at hc
        cases st with
        | arr => exact absurd rfl hst
        | idx i => simp only [loc] at h; exact elem t x i hc.2 h
        | fst => simp only [loc, eval_fail] at h
        | snd => simp only [loc, eval_fail] at h
      | _ => cases st <;> first | exact absurd rfl hst | (simp only [loc, eval_fail] at h)
    | vec e t l =>
      simp only [VO] at hc
      cases st with
      | arr => exact absurd rfl hst
      | idx i => simp only [loc] at h; exact elem t l i hc h
      | fst => simp only [loc, eval_fail] at h
      | snd => simp only [loc, eval_fail] at h
    | _ => cases st <;> first | exact absurd rfl hst | (simp only [loc, eval_fail] at h)

theorem V_mkPr {E : Env} {a b : AVal} {ca cb : List Value} (ha : V E a ca) (hb : V E b cb) : V E (mkPr a b) (ca ++ cb) := by
  have gen : V E (.pr a b) (ca ++ cb) := by simp only [V]; exact ⟨ca, cb, rfl, ha, hb⟩
  unfold mkPr
  split
  · simp only [V] at ha hb ⊢
    simp only [Rep]
    exact ⟨ca, cb, rfl, ha, hb⟩
  · exact gen

theorem mkPr_notVec (a b : AVal) : (mkPr a b).isVec = false := by unfold mkPr; split <;> rfl

def splice (cs : List Value) (n : Nat) (vs : List Value) : List Value := cs.take n ++ vs ++ cs.drop (n + vs.length)

theorem splice_all {cs vs : List Value} (h : cs.length = vs.length) : splice cs 0 vs = vs := by
  simp [splice, List.drop_of_length_le (by omega : cs.length ≤ vs.length)]

theorem splice_left {ca cb vs : List Value} {n : Nat} (h : n + vs.length ≤ ca.length) : splice (ca ++ cb) n vs = splice ca n vs ++ cb := by
  unfold splice
  rw [List.take_append, List.drop_append, Nat.sub_eq_zero_of_le (by omega : n ≤ ca.length), List.take_zero, List.append_nil, Nat.sub_eq_zero_of_le h, List.drop_zero]
  simp only [List.append_assoc]

theorem splice_right {ca cb vs : List Value} {n : Nat} : splice (ca ++ cb) (ca.length + n) vs = ca ++ splice cb n vs := by
  unfold splice
  rw [List.take_append, List.take_of_length_le (by omega), Nat.add_sub_cancel_left, List.drop_append, List.drop_of_length_le (by omega), List.nil_append]
  simp only [List.append_assoc]
  congr 4
  omega

theorem splice_mid {cs vs : List Value} {i z n : Nat} (hz : i + z ≤ cs.length) (h : n + vs.length ≤ z) :
    splice cs (i + n) vs = cs.take i ++ splice ((cs.drop i).take z) n vs ++ cs.drop (i + z) := by
  have e : cs = cs.take i ++ ((cs.drop i).take z ++ cs.drop (i + z)) := by
    rw [← List.drop_drop, List.take_append_drop, List.take_append_drop]
  have hl : (cs.take i).length = i := by simp; omega
  have hm : ((cs.drop i).take z).length = z := by simp; omega
  conv => lhs; rw [e, show i + n = (cs.take i).length + n by rw [hl]]
  rw [splice_right, splice_left (by omega)]
  simp only [List.append_assoc]

theorem splice_length {cs vs : List Value} {n : Nat} (h : n + vs.length ≤ cs.length) : (splice cs n vs).length = cs.length := by
  simp [splice]; omega

def SameShape : AVal → AVal → Prop
  | .vec e t l, .vec e' t' l' => e' = e ∧ t' = t ∧ l'.length = l.length
  | .vec .., _ => False
  | _, .vec .. => False
  | _, _ => True

theorem SameShape.notVec {a b : AVal} (h : SameShape a b) (ha : a.isVec = false) : b.isVec = false := by
  cases b <;> first
    | rfl
    | (cases a <;> first | (simp [AVal.isVec] at ha; done) | exact h.elim)

theorem SameShape.of {a b : AVal} (ha : a.isVec = false) (hb : b.isVec = false) : SameShape a b := by
  cases a <;> first
    | (simp [AVal.isVec] at ha; done)
    | (cases b <;> first | trivial | (simp [AVal.isVec] at hb; done))

theorem V.notVec {E : Env} {a : AVal} {cs : List Value} (h : V E a cs) : a.isVec = false := by
  cases a <;> first | rfl | (simp only [V] at h)

/-- A content with a part changed. -/
theorem upd_sound {E : Env} : ∀ (p : List Stp) (c : AVal) (cs : List Value) (n : Nat) (o v c' : AVal) (vs : List Value), VO E c cs → (loc c p).eval = some (n, o) → V E v vs →
    (upd c p v).eval = some c' → n + vs.length ≤ cs.length ∧ VO E c' (splice cs n vs) ∧
      SameShape c c'
  | [], c, cs, n, o, v, c', vs, hc, hl, hv, h => by
    simp only [loc, eval_ok, Prod.mk.injEq] at hl
    obtain ⟨rfl, rfl⟩ := hl
    have main : ∀ (hnv : c.isVec = false), (Out.guard (v.celled && (c.size == v.size)) (.ok v)).eval = some c' → 0 + vs.length ≤ cs.length ∧ VO E c' (splice cs 0 vs) ∧
      SameShape c c' := by
      intro hnv hg
      obtain ⟨h1, h2⟩ := eval_guard.1 hg
      obtain rfl := eval_ok.1 h2
      simp only [Bool.and_eq_true, beq_iff_eq] at h1
      have e1 := (hc.to hnv).size
      have e2 := hv.size
      refine ⟨by omega, ?_, ?_⟩
      · rw [splice_all (by omega)]; exact VO.of hv
      · exact SameShape.of hnv hv.notVec
    cases c with
    | vec e t l => simp only [upd, eval_fail] at h
    | _ => exact main rfl (by simpa only [upd] using h)
  | st :: p, c, cs, n, o, v, c', vs, hc, hl, hv, h => by
    by_cases hst : st = .arr
    · subst hst
      have hl' : (loc c p).eval = some (n, o) := by cases c <;> simpa only [loc] using hl
      have h' : (upd c p v).eval = some c' := by cases c <;> simpa only [upd] using h
      exact upd_sound p c cs n o v c' vs hc hl' hv h'
    have left : ∀ (a b : AVal) (ca cb : List Value), cs = ca ++ cb → V E a ca → V E b cb → (loc a p).eval = some (n, o) → ((upd a p v).bind fun a' => Out.ok (mkPr a' b)).eval = some c' →
        n + vs.length ≤ cs.length ∧ VO E c' (splice cs n vs) ∧ c'.isVec = false := by
      intro a b ca cb e ha hb hl hh
      obtain ⟨a', h1, h2⟩ := eval_bind.1 hh
      obtain rfl := eval_ok.1 h2
      obtain ⟨h3, h4, h5⟩ := upd_sound p a ca n o v a' vs (VO.of ha) hl hv h1
      subst e
      refine ⟨by simp only [List.length_append]; omega, ?_, mkPr_notVec _ _⟩
      rw [splice_left h3]
      have hav : a'.isVec = false := h5.notVec ha.notVec
      exact VO.of (V_mkPr (h4.to hav) hb)
    have right : ∀ (a b : AVal) (ca cb : List Value), cs = ca ++ cb → ca.length = a.size → V E a ca → V E b cb → ((loc b p).bind fun (n, v) => Out.ok (a.size + n, v)).eval = some (n, o) →
        ((upd b p v).bind fun b' => Out.ok (mkPr a b')).eval = some c' → n + vs.length ≤ cs.length ∧ VO E c' (splice cs n vs) ∧ c'.isVec = false := by
      intro a b ca cb e hal ha hb hl hh
      obtain ⟨⟨n', v'⟩, h1, h2⟩ := eval_bind.1 hl
      simp only [eval_ok, Prod.mk.injEq] at h2
      obtain ⟨rfl, rfl⟩ := h2
      obtain ⟨b', h3, h4⟩ := eval_bind.1 hh
      obtain rfl := eval_ok.1 h4
      obtain ⟨h5, h6, h7⟩ := upd_sound p b cb n' v' v b' vs (VO.of hb) h1 hv h3
      subst e
      refine ⟨by simp only [List.length_append]; omega, ?_, mkPr_notVec _ _⟩
      rw [← hal, splice_right]
      have hav : b'.isVec = false := h7.notVec hb.notVec
      exact VO.of (V_mkPr ha (h6.to hav))
    have elem : ∀ (t : Ty) (l : List t.den) (i : Nat) (mk : List t.den → AVal), Chunks (Rep E t) cs l → (Out.chk (decide (i < l.length)) ((loc (.d t (nth t l i)) p).bind fun (n, v) => Out.ok (i * t.size + n, v))).eval = some (n, o) →
        (Out.chk (decide (i < l.length)) ((upd (.d t (nth t l i)) p v).bind fun
          | .d t' y => (Out.opt (castTy t' t y)).bind fun y => .ok (mk (l.set i y))
          | _ => .fail)).eval = some c' →
        n + vs.length ≤ cs.length ∧ ∃ l', c' = mk l' ∧ l'.length = l.length ∧ Chunks (Rep E t) (splice cs n vs) l' := by
      intro t l i mk hch hl hh
      obtain ⟨hi, hl⟩ := eval_chk.1 hl
      have hi : i < l.length := by simpa using hi
      obtain ⟨⟨n', v'⟩, h1, h2⟩ := eval_bind.1 hl
      simp only [eval_ok, Prod.mk.injEq] at h2
      obtain ⟨rfl, rfl⟩ := h2
      obtain ⟨_, hh⟩ := eval_chk.1 hh
      obtain ⟨w, h3, h4⟩ := eval_bind.1 hh
      obtain ⟨hp, hle⟩ := row_part hch hi
      rw [nth_eq hi] at h1 h3
      have hvp : V E (.d t l[i]) ((cs.drop (i * t.size)).take t.size) := by simpa only [V] using hp
      have hlen : ((cs.drop (i * t.size)).take t.size).length = t.size := hp.size
      obtain ⟨h5, h6, h7⟩ := upd_sound p _ _ n' v' v w vs (VO.of hvp) h1 hv h3
      cases w with
      | d t' y =>
        simp only at h4
        obtain ⟨y', h8, h9⟩ := eval_bind.1 h4
        obtain ⟨rfl, h8⟩ := castTy_some (eval_opt.1 h8)
        simp only at h8
        subst h8
        obtain rfl := eval_ok.1 h9
        refine ⟨by omega, _, rfl, by simp, ?_⟩
        have hy : Rep E t' (splice ((cs.drop (i * t'.size)).take t'.size) n' vs) y := by simpa only [VO, V] using h6
        have := Chunks.set (fun c x hx => Rep.size hx) hch i hi hy
        rw [splice_mid (by omega : i * t'.size + t'.size ≤ cs.length) (by omega)]
        rwa [hy.size] at this
      | _ => simp only [eval_fail] at h4
    cases c with
    | pr a b =>
      simp only [VO, V] at hc
      obtain ⟨ca, cb, e, ha, hb⟩ := hc
      cases st with
      | arr => exact absurd rfl hst
      | fst =>
        simp only [loc] at hl; simp only [upd] at h
        obtain ⟨r1, r2, r3⟩ := left a b ca cb e ha hb hl h
        exact ⟨r1, r2, SameShape.of rfl r3⟩
      | snd =>
        simp only [loc] at hl; simp only [upd] at h
        obtain ⟨r1, r2, r3⟩ := right a b ca cb e ha.size ha hb hl h
        exact ⟨r1, r2, SameShape.of rfl r3⟩
      | idx i => simp only [loc, eval_fail] at hl
    | d t x =>
      simp only [VO, V] at hc
      cases t with
      | pair ta tb =>
        simp only [Rep] at hc
        obtain ⟨ca, cb, e, ha, hb⟩ := hc
        have ha' : V E (.d ta x.1) ca := by simpa only [V] using ha
        have hb' : V E (.d tb x.2) cb := by simpa only [V] using hb
        cases st with
        | arr => exact absurd rfl hst
        | fst =>
          simp only [loc] at hl; simp only [upd] at h
          obtain ⟨r1, r2, r3⟩ := left _ _ ca cb e ha' hb' hl h
          exact ⟨r1, r2, SameShape.of rfl r3⟩
        | snd =>
          simp only [loc] at hl; simp only [upd] at h
          obtain ⟨r1, r2, r3⟩ := right (.d ta x.1) (.d tb x.2) ca cb e ha.size ha' hb' hl h
          exact ⟨r1, r2, SameShape.of rfl r3⟩
        | idx i => simp only [loc, eval_fail] at hl
      | arr m t =>
        simp only [Rep] at hc
        cases st with
        | arr => exact absurd rfl hst
        | idx i =>
          simp only [loc] at hl; simp only [upd] at h
          obtain ⟨r1, l', e, r2, r3⟩ := elem t x i (fun l => .d (.arr m t) l) hc.2 hl h
          subst e
          refine ⟨r1, ?_, trivial⟩
          simp only [VO, V, Rep]
          exact ⟨by rw [r2]; exact hc.1, r3⟩
        | fst => simp only [loc, eval_fail] at hl
        | snd => simp only [loc, eval_fail] at hl
      | _ => cases st <;> first | exact absurd rfl hst | (simp only [loc, eval_fail] at hl)
    | vec e t l =>
      simp only [VO] at hc
      cases st with
      | arr => exact absurd rfl hst
      | idx i =>
        simp only [loc] at hl; simp only [upd] at h
        obtain ⟨r1, l', e', r2, r3⟩ := elem t l i (fun l => .vec e t l) hc hl h
        subst e'
        exact ⟨r1, by simpa only [VO] using r3, rfl, rfl, r2⟩
      | fst => simp only [loc, eval_fail] at hl
      | snd => simp only [loc, eval_fail] at hl
    | _ => cases st <;> first | exact absurd rfl hst | (simp only [loc, eval_fail] at hl)

end Go.Ab
/-
  Objects in memory; what a step may do; the state's relation to the machine; freezing; data taken out of values.
-/
namespace Go.Ab

/-- A row of cells of its own: the block of an object. -/
def World.rowIs (w : World) (b : Nat) (cur : Array Value) (e : TypeId) : Prop := w.heap[b]? = some (.cells cur e (0, 0))

def VecR (E : Env) (id : Id) (fr : Bool) (e : TypeId) (t : Ty) (l : List t.den) : Prop :=
  0 < t.size ∧ match E.β id with
    | none => l = []
    | some pl => ∃ cur k, E.w.heap[pl.b]? = some (.cells cur e (0, 0)) ∧ cur.size = pl.cap * t.size ∧ l.length ≤ pl.cap ∧ pl.cap ≤ maxLen ∧ E.g pl.b = .own (.id id) k ∧
        k ≤ l.length * t.size ∧ (fr = false → k = 0) ∧ Chunks (Rep E t) (cur.toList.take (l.length * t.size)) l

/-- Is the box of this type? -/
def AVal.boxOk : AVal → TypeId → Prop
  | .bx e' _, e => e = e'
  | _, _ => True
def AVal.isBx : AVal → Bool | .bx .. => true | _ => false
theorem V.notBx {E : Env} {a : AVal} {cs : List Value} (h : V E a cs) : a.isBx = false := by
  cases a <;> first | rfl | (simp only [V] at h)
theorem strip_not {c : AVal} (h : c.isBx = false) : c.strip = c := by
  cases c <;> first | rfl | (simp [AVal.isBx] at h)
theorem boxOk_not {c : AVal} (h : c.isBx = false) (e : TypeId) : c.boxOk e := by
  cases c <;> first | trivial | (simp [AVal.isBx] at h)
theorem strip_wrap (c : AVal) {c' : AVal} (h : c'.isBx = false) : (c.wrap c').strip = c' := by
  cases c <;> first | rfl | exact strip_not h
theorem boxOk_wrap {c c' : AVal} {e : TypeId} (hc : c.boxOk e) (h : c'.isBx = false) : (c.wrap c').boxOk e := by
  cases c <;> first | exact hc | exact boxOk_not h e

def boxLab (id : Id) (fr : Bool) : Lab := match fr with | true => .free | false => .own (.id id) 0

def BoxR (E : Env) (id : Id) (fr : Bool) (c : AVal) : Prop :=
  ∃ pl cur e, E.β id = some pl ∧ E.w.heap[pl.b]? = some (.cells cur e (0, 0)) ∧ E.g pl.b = boxLab id fr ∧ c.boxOk e ∧ V E c.strip cur.toList

def ObjR (E : Env) (id : Id) (fr : Bool) : AVal → Prop
  | .vec e t l => VecR E id fr e t l
  | c => BoxR E id fr c

theorem ObjR.box {E : Env} {id : Id} {fr : Bool} {c : AVal} (h : ObjR E id fr c) (hn : c.isVec = false) : BoxR E id fr c := by
  cases c <;> first | exact h | (simp [AVal.isVec] at hn)
theorem BoxR.obj {E : Env} {id : Id} {fr : Bool} {c : AVal} (h : BoxR E id fr c) : ObjR E id fr c := by
  cases c <;> first | exact h | (obtain ⟨_, _, _, _, _, _, _, hv⟩ := h; simp only [AVal.strip, V] at hv)

def Objs (E : Env) : Prop := ∀ id ver fr c, E.s id = some (.obj ver fr c) → ObjR E id fr c

/-- What a step may do to memory, and to what is said of it. -/
structure Trans (w w' : World) (g g' : Nat → Lab) : Prop where
  os : w'.os = w.os
  tape : w'.tape = w.tape
  output : w'.output = w.output
  size : w.heap.size ≤ w'.heap.size
  blk : ∀ b, b < w.heap.size → match g b with
    | .free => g' b = .free ∧ w'.heap[b]? = w.heap[b]?
    | .own .foreign k => g' b = .own .foreign k ∧ w'.heap[b]? = w.heap[b]?
    | .own (.id _) k => (g' b = .free ∨ ∃ i k', g' b = .own (.id i) k' ∧ k ≤ k') ∧ ∀ off v, off < k → w.cell? ⟨b, off, none⟩ = some v → w'.cell? ⟨b, off, none⟩ = some v

theorem Trans.refl (w : World) (g : Nat → Lab) : Trans w w g g :=
  ⟨rfl, rfl, rfl, Nat.le_refl _, fun b _ => by
    cases g b with
    | free => exact ⟨rfl, rfl⟩
    | own o k => cases o with
      | foreign => exact ⟨rfl, rfl⟩
      | id i => exact ⟨.inr ⟨i, k, rfl, Nat.le_refl _⟩, fun _ _ _ h => h⟩⟩

theorem Trans.trans {w w' w'' : World} {g g' g'' : Nat → Lab} (h : Trans w w' g g') (h' : Trans w' w'' g' g'') : Trans w w'' g g'' := by
  refine ⟨h'.os.trans h.os, h'.tape.trans h.tape, h'.output.trans h.output, Nat.le_trans h.size h'.size, fun b hb => ?_⟩
  have h1 := h.blk b hb
  have h2 := h'.blk b (Nat.lt_of_lt_of_le hb h.size)
  cases hg : g b with
  | free =>
    rw [hg] at h1; simp only at h1 ⊢
    rw [h1.1] at h2; simp only at h2
    exact ⟨h2.1, h2.2.trans h1.2⟩
  | own o k =>
    cases o with
    | foreign =>
      rw [hg] at h1; simp only at h1 ⊢
      rw [h1.1] at h2; simp only at h2
      exact ⟨h2.1, h2.2.trans h1.2⟩
    | id i =>
      rw [hg] at h1; simp only at h1 ⊢
      obtain ⟨h1g, h1c⟩ := h1
      rcases h1g with h1g | ⟨i', k', h1g, hk⟩
      · rw [h1g] at h2; simp only at h2
        exact ⟨.inl h2.1, fun off v ho hv => by
          have := h1c off v ho hv
          simpa only [World.cell?, h2.2] using this⟩
      · rw [h1g] at h2; simp only at h2
        refine ⟨?_, fun off v ho hv => h2.2 off v (by omega) (h1c off v ho hv)⟩
        rcases h2.1 with h2g | ⟨i'', k'', h2g, hk'⟩
        · exact .inl h2g
        · exact .inr ⟨i'', k'', h2g, by omega⟩

theorem Trans.mem {E E' : Env} (h : Trans E.w E'.w E.g E'.g) : MemLe E E' := by
  refine ⟨?_, fun b ob hf ho => by
    have h1 := h.blk b (Array.getElem?_eq_some_iff.1 ho).1
    rw [hf] at h1
    exact ⟨h1.1, h1.2.trans ho⟩⟩
  intro b off v ⟨hc, ho⟩
  have hb : b < E.w.heap.size := World.block_lt_of_cell? _ _ hc
  have h1 := h.blk b hb
  unfold Env.has okAt at *
  cases hg : E.g b with
  | free =>
    rw [hg] at h1; simp only at h1
    refine ⟨?_, by rw [h1.1]; trivial⟩
    simpa only [World.cell?, h1.2] using hc
  | own o k =>
    rw [hg] at ho; simp only at ho
    cases o with
    | foreign =>
      rw [hg] at h1; simp only at h1
      refine ⟨?_, by rw [h1.1]; exact ho⟩
      simpa only [World.cell?, h1.2] using hc
    | id i =>
      rw [hg] at h1; simp only at h1
      refine ⟨h1.2 off v ho hc, ?_⟩
      rcases h1.1 with h2 | ⟨i', k', h2, hk⟩
      · rw [h2]; trivial
      · rw [h2]; show off < k'; omega

/-- An object that nothing happened to. -/
theorem ObjR.mono {E E' : Env} (h : EnvLe E E') {id : Id} {fr : Bool} {c : AVal} (ho : ObjR E id fr c) (hβ : E'.β id = E.β id)
    (hb : ∀ pl, E.β id = some pl → E'.w.heap[pl.b]? = E.w.heap[pl.b]? ∧ E'.g pl.b = E.g pl.b) : ObjR E' id fr c := by
  by_cases hn : c.isVec = false
  · obtain ⟨pl, cur, e, h1, h2, h3, h5, h4⟩ := ho.box hn
    obtain ⟨b1, b2⟩ := hb pl h1
    exact BoxR.obj ⟨pl, cur, e, by rw [hβ, h1], by rw [b1, h2], by rw [b2, h3], h5, h4.mono h⟩
  · cases c <;> first
      | (exact absurd rfl hn)
      | skip
    rename_i e t l
    obtain ⟨hz, ho⟩ := ho
    refine ⟨hz, ?_⟩
    rw [hβ]
    cases hp : E.β id with
    | none => rw [hp] at ho; exact ho
    | some pl =>
      rw [hp] at ho
      simp only at ho ⊢
      obtain ⟨b1, b2⟩ := hb pl hp
      obtain ⟨cur, k, h1, h2, h3, h4, h5, h6, h7, h8⟩ := ho
      exact ⟨cur, k, by rw [b1, h1], h2, h3, h4, by rw [b2, h5], h6, h7, h8.mono fun c x hx => hx.mono h.mem⟩

/-! ### The state -/

def AS.env (s : AS) (w : World) (g : Nat → Lab) (β : Id → Option Pl) : Env := { w, g, β, s := s.ent }

structure Ctx where
  E : Env

/-- A state of the abstract machine stands for the machine's frame and world. -/
structure Inv (C : Ctx) (g : Nat → Lab) (β : Id → Option Pl) (s : AS) (a : Act) (w : World) : Prop where
  defers : a.defers = []
  size : a.tmps.size = s.slots.length
  slots : ∀ i, VS (s.env w g β) (s.slot i) (a.tmps.getD i undef)
  objs : Objs (s.env w g β)
  trans : Trans C.E.w w C.E.g g
  le : EnvLe C.E (s.env w g β)

def Sts (C : Ctx) (s : AS) (a : Act) (w : World) : Prop := ∃ g β, Inv C g β s a w

theorem slot_put (s : AS) (d : Nat) (v : AVal) (i : Nat) : (s.put (some d) v).slot i = if i = d ∧ d < s.slots.length then v else s.slot i := by
  simp only [AS.put, AS.slot, List.getD_eq_getElem?_getD, List.getElem?_set]
  by_cases h : d = i
  · subst h
    by_cases hl : d < s.slots.length
    · simp [hl]
    · simp [hl]
  · simp [h, Ne.symm h]

@[simp] theorem ent_put (s : AS) (d : Option Tmp) (v : AVal) : (s.put d v).ent = s.ent := by
  cases d <;> rfl
@[simp] theorem env_put (s : AS) (d : Option Tmp) (v : AVal) (w : World) (g : Nat → Lab) (β : Id → Option Pl) : (s.put d v).env w g β = s.env w g β := by
  simp [AS.env]
theorem obj_put (s : AS) (d : Option Tmp) (v : AVal) (id : Id) : (s.put d v).obj id = s.obj id := by simp [AS.obj]

theorem tmps_put (a : Act) (d : Nat) (v : Value) (i : Nat) : (a.put (some d) v).tmps.getD i undef = if i = d ∧ d < a.tmps.size then v else a.tmps.getD i undef := by
  simp only [Act.put, Array.getD_eq_getD_getElem?, Array.getElem?_setIfInBounds]
  by_cases h : d = i
  · subst h
    by_cases hl : d < a.tmps.size
    · simp [hl]
    · simp [hl]
  · simp [h, Ne.symm h]

theorem Inv.put {C : Ctx} {g : Nat → Lab} {β : Id → Option Pl} {s : AS} {a : Act} {w : World} (h : Inv C g β s a w) (d : Option Tmp) {v : AVal} {x : Value} (hv : VS (s.env w g β) v x) :
    Inv C g β (s.put d v) (a.put d x) w := by
  cases d with
  | none => exact h
  | some d =>
    refine ⟨by simpa [Act.put] using h.defers, by simpa [Act.put, AS.put] using h.size, fun i => ?_, by simpa using h.objs, h.trans, by simpa using h.le⟩
    rw [env_put, slot_put, tmps_put, h.size]
    split
    · exact hv
    · exact h.slots i

/-- A step that leaves the slots. -/
theorem Inv.step {C : Ctx} {g g' : Nat → Lab} {β β' : Id → Option Pl} {s s' : AS} {a : Act} {w w' : World} (h : Inv C g β s a w) (hs : s'.slots = s.slots)
    (ht : Trans w w' g g') (he : EnvLe (s.env w g β) (s'.env w' g' β')) (ho : Objs (s'.env w' g' β')) : Inv C g' β' s' a w' :=
  ⟨h.defers, by rw [hs]; exact h.size, fun i => by
    have : s'.slot i = s.slot i := by simp [AS.slot, hs]
    rw [this]
    exact (h.slots i).mono he, ho, h.trans.trans ht, h.le.trans he⟩

theorem VS_const {E : Env} (v : Value) : VS E (ofConst v) v := by
  cases v with
  | bool b => exact ⟨_, by simp [ofConst, V, Rep], rfl⟩
  | int k n => exact ⟨_, by simp [ofConst, V, Rep], rfl⟩
  | string s => exact ⟨_, by simp [ofConst, V, Rep], rfl⟩
  | slice a l c => cases a with
    | none =>
      cases l with
      | zero => cases c with
        | zero => exact ⟨_, by simp [ofConst, V], rfl⟩
        | succ _ => trivial
      | succ _ => trivial
    | some _ => trivial
  | pointer a => cases a with
    | none => exact ⟨_, by simp [ofConst, V], rfl⟩
    | some _ => trivial
  | map r => cases r with
    | none => exact ⟨_, by simp [ofConst, V], rfl⟩
    | some _ => trivial
  | nilFunc => exact ⟨_, by simp [ofConst, V], rfl⟩
  | _ => trivial

theorem Inv.ev {C : Ctx} {g : Nat → Lab} {β : Id → Option Pl} {s : AS} {a : Act} {w : World} (h : Inv C g β s a w) (x : Operand) : VS (s.env w g β) (s.ev x) (a.eval x) := by
  cases x with
  | tmp t => exact h.slots t
  | const v => exact VS_const v
  | func f => exact ⟨_, by simp only [AS.ev, V]; exact ⟨[], rfl, by simp [VC]⟩, rfl⟩
  | global _ => trivial

/-! ### Objects that are set anew -/

theorem ent_setEnt_self (s : AS) (id : Id) (e : Ent) (h : s.ent id ≠ none) : (s.setEnt id e).ent id = some e := by
  cases id with
  | old k =>
    simp only [AS.ent, AS.setEnt] at *
    have hk : k < s.olds.length := by
      rcases Nat.lt_or_ge k s.olds.length with h' | h'
      · exact h'
      · exact absurd (List.getElem?_eq_none h') h
    simp [hk]
  | new i j =>
    simp only [AS.ent, AS.setEnt] at *
    have hj : j < (s.news.getD i []).length := by
      rcases Nat.lt_or_ge j (s.news.getD i []).length with h' | h'
      · exact h'
      · exact absurd (List.getElem?_eq_none h') h
    have hi : i < s.news.length := by
      rcases Nat.lt_or_ge i s.news.length with h' | h'
      · exact h'
      · simp [List.getElem?_eq_none h'] at hj
    have : ((s.news.set i ((s.news.getD i []).set j e)).getD i []) = (s.news.getD i []).set j e := by
      simp [List.getD_eq_getElem?_getD, hi]
    rw [this]
    simp only [List.getElem?_set, hj, if_true]

theorem ent_setEnt_other (s : AS) (id id' : Id) (e : Ent) (h : id' ≠ id) : (s.setEnt id e).ent id' = s.ent id' := by
  cases id with
  | old k =>
    cases id' with
    | old k' =>
      simp only [AS.ent, AS.setEnt]
      rw [List.getElem?_set_ne (fun e => h (by rw [e]))]
    | new i j => rfl
  | new i j =>
    cases id' with
    | old k' => rfl
    | new i' j' =>
      simp only [AS.ent, AS.setEnt]
      by_cases hi : i' = i
      · subst hi
        have hj : j ≠ j' := fun e => h (by rw [e])
        by_cases hl : i' < s.news.length
        · have : ((s.news.set i' ((s.news.getD i' []).set j e)).getD i' []) = (s.news.getD i' []).set j e := by
            simp [List.getD_eq_getElem?_getD, hl]
          rw [this, List.getElem?_set_ne hj]
        · rw [List.set_eq_of_length_le (by omega)]
      · have : (s.news.set i ((s.news.getD i []).set j e)).getD i' [] = s.news.getD i' [] := by
          simp only [List.getD_eq_getElem?_getD]
          rw [List.getElem?_set_ne (Ne.symm hi)]
        rw [this]

@[simp] theorem slots_setEnt (s : AS) (id : Id) (e : Ent) : (s.setEnt id e).slots = s.slots := by cases id <;> rfl
@[simp] theorem slots_born (s : AS) (i : Nat) (es : List Ent) : (s.born i es).slots = s.slots := rfl

theorem obj_some {s : AS} {id : Id} {v : Nat} {fr : Bool} {c : AVal} (h : s.obj id = some (v, fr, c)) : s.ent id = some (.obj v fr c) := by
  unfold AS.obj at h
  split at h
  · rename_i h'; simp at h; obtain ⟨rfl, rfl, rfl⟩ := h; exact h'
  · cases h

/-- An object is set to another one of the same version or a later one; all else stays. -/
theorem EnvLe.setEnt {s : AS} {w w' : World} {g g' : Nat → Lab} {β β' : Id → Option Pl} {id : Id} {v v' : Nat} {fr fr' : Bool} {c c' : AVal} (hs : s.ent id = some (.obj v fr c)) (hv : v ≤ v')
    (ht : Trans w w' g g') (hβ : ∀ i, i ≠ id → β' i = β i) (hβ' : v' = v → β' id = β id) : EnvLe (s.env w g β) ((s.setEnt id (.obj v' fr' c')).env w' g' β') := by
  have hself := ent_setEnt_self s id (.obj v' fr' c') (by rw [hs]; simp)
  refine ⟨Trans.mem ht, fun i ver hb => ?_, fun i ver hb hc => ?_⟩
  · by_cases hi : i = id
    · subst hi
      obtain ⟨_, h2⟩ := hb
      refine ⟨by show (s.setEnt i (.obj v' fr' c')).ent i ≠ none; rw [hself]; simp, fun v'' fr'' c'' he => ?_⟩
      have he' : (s.setEnt i (.obj v' fr' c')).ent i = some (.obj v'' fr'' c'') := he
      rw [hself] at he'
      simp only [Option.some.injEq, Ent.obj.injEq] at he'
      have := h2 v fr c hs
      omega
    · have := ent_setEnt_other s id i (.obj v' fr' c') hi
      obtain ⟨h1, h2⟩ := hb
      exact ⟨by show (s.setEnt id (.obj v' fr' c')).ent i ≠ none; rw [this]; exact h1, fun v'' fr'' c'' he => h2 v'' fr'' c'' (this.symm.trans he)⟩
  · obtain ⟨fr'', c'', hc⟩ := hc
    by_cases hi : i = id
    · subst hi
      have hc' : (s.setEnt i (.obj v' fr' c')).ent i = some (.obj ver fr'' c'') := hc
      rw [hself] at hc'
      simp only [Option.some.injEq, Ent.obj.injEq] at hc'
      have h2 := hb.2 v fr c hs
      have e : v' = v := by omega
      refine ⟨⟨fr, c, ?_⟩, hβ' e⟩
      rw [← hc'.1, e]; exact hs
    · have hc' : (s.setEnt id (.obj v' fr' c')).ent i = some (.obj ver fr'' c'') := hc
      rw [ent_setEnt_other s id i _ hi] at hc'
      exact ⟨⟨fr'', c'', hc'⟩, hβ i hi⟩

/-- All objects, when one is set. -/
theorem Objs.setEnt {s : AS} {w w' : World} {g g' : Nat → Lab} {β β' : Id → Option Pl} {id : Id} {v' : Nat} {fr' : Bool} {c' : AVal} (h : Objs (s.env w g β)) (hne : s.ent id ≠ none)
    (he : EnvLe (s.env w g β) ((s.setEnt id (.obj v' fr' c')).env w' g' β')) (hβ : ∀ i, i ≠ id → β' i = β i)
    (hb : ∀ i ver fr c pl, i ≠ id → s.ent i = some (.obj ver fr c) → β i = some pl → w'.heap[pl.b]? = w.heap[pl.b]? ∧ g' pl.b = g pl.b)
    (ho : ObjR ((s.setEnt id (.obj v' fr' c')).env w' g' β') id fr' c') : Objs ((s.setEnt id (.obj v' fr' c')).env w' g' β') := by
  intro i ver fr c hi
  by_cases hid : i = id
  · subst hid
    have hi' : (s.setEnt i (.obj v' fr' c')).ent i = some (.obj ver fr c) := hi
    rw [ent_setEnt_self s i _ hne] at hi'
    simp only [Option.some.injEq, Ent.obj.injEq] at hi'
    obtain ⟨rfl, rfl, rfl⟩ := hi'
    exact ho
  · have hi' : (s.setEnt id (.obj v' fr' c')).ent i = some (.obj ver fr c) := hi
    rw [ent_setEnt_other s id i _ hid] at hi'
    exact (h i ver fr c hi').mono he (hβ i hid) fun pl hp => hb i ver fr c pl hid hi' hp

/-- The block of an object that may be written. -/
theorem ObjR.label {E : Env} {id : Id} {fr : Bool} {c : AVal} (h : ObjR E id fr c) {pl : Pl} (hp : E.β id = some pl) :
    pl.b < E.w.heap.size ∧ ((∃ k, E.g pl.b = .own (.id id) k) ∨ (fr = true ∧ E.g pl.b = .free)) := by
  by_cases hn : c.isVec = false
  · obtain ⟨pl', cur, e, h1, h2, h3, h4⟩ := h.box hn
    rw [hp] at h1
    obtain rfl : pl = pl' := by simpa using h1
    refine ⟨(Array.getElem?_eq_some_iff.1 h2).1, ?_⟩
    cases fr with
    | true => exact .inr ⟨rfl, h3⟩
    | false => exact .inl ⟨0, h3⟩
  · cases c <;> first | (exact absurd rfl hn) | skip
    obtain ⟨_, h⟩ := h
    rw [hp] at h
    obtain ⟨cur, k, h1, _, _, _, h5, _⟩ := h
    exact ⟨(Array.getElem?_eq_some_iff.1 h1).1, .inl ⟨k, h5⟩⟩

def upd1 {α : Type} (f : Nat → α) (b : Nat) (x : α) : Nat → α := fun b' => if b' = b then x else f b'
@[simp] theorem upd1_self {α : Type} (f : Nat → α) (b : Nat) (x : α) : upd1 f b x b = x := by simp [upd1]
theorem upd1_other {α : Type} (f : Nat → α) (b : Nat) (x : α) {b' : Nat} (h : b' ≠ b) : upd1 f b x b' = f b' := by simp [upd1, h]

/-! ### Freezing -/

def inVec : AVal → Nat → Prop
  | .vec _ t l, j => j < l.length * t.size
  | _, _ => True

theorem inVec.of {c : AVal} (h : c.isVec = false) (j : Nat) : inVec c j := by
  cases c <;> first | trivial | (simp [AVal.isVec] at h)

theorem freeze_sound {C : Ctx} {g : Nat → Lab} {β : Id → Option Pl} {s : AS} {a : Act} {w : World} (h : Inv C g β s a w) (id : Id) :
    ∃ g', Inv C g' β (s.freeze id) a w ∧ EnvLe (s.env w g β) ((s.freeze id).env w g' β) ∧ Trans w w g g' ∧
      (∀ v fr c, s.ent id = some (.obj v fr c) → ∀ pl, β id = some pl → ∀ j x, w.cell? ⟨pl.b, j, none⟩ = some x →
        inVec c j → okAt g' pl.b j) := by
  unfold AS.freeze
  cases hs : s.ent id with
  | none => exact ⟨g, h, EnvLe.refl _, Trans.refl _ _, fun _ _ _ hh => by cases hh⟩
  | some e =>
    cases e with
    | dead => exact ⟨g, h, EnvLe.refl _, Trans.refl _ _, fun _ _ _ hh => by cases hh⟩
    | obj v fr c =>
      simp only
      have hob : ObjR (s.env w g β) id fr c := h.objs id v fr c hs
      cases hp : β id with
      | none =>
        have ht := Trans.refl w g
        have he : EnvLe (s.env w g β) ((s.setEnt id (.obj v true c)).env w g β) := EnvLe.setEnt hs (Nat.le_refl _) ht (fun _ _ => rfl) (fun _ => rfl)
        refine ⟨g, h.step (slots_setEnt _ _ _) ht he ?_, he, ht, fun _ _ _ _ pl hpl => by cases hpl⟩
        refine Objs.setEnt h.objs (by rw [hs]; simp) he (fun _ _ => rfl) (fun _ _ _ _ _ _ _ _ => ⟨rfl, rfl⟩) ?_
        by_cases hn : c.isVec = false
        · obtain ⟨pl, _, _, h1, _⟩ := hob.box hn
          have h1' : β id = some pl := h1
          rw [hp] at h1'; cases h1'
        · cases c <;> first | (exact absurd rfl hn) | skip
          obtain ⟨hz, ho⟩ := hob
          have ho' : (match β id with
            | none => _
            | some pl => _) := ho
          refine ⟨hz, ?_⟩
          show (match β id with
            | none => _
            | some pl => _)
          rw [hp] at ho' ⊢
          exact ho'
      | some pl =>
        have hlab := hob.label (pl := pl) hp
        by_cases hn : c.isVec = false
        · obtain ⟨pl', cur, e, h1, h2, h3, h5, h4⟩ := hob.box hn
          have h1' : β id = some pl' := h1
          rw [hp] at h1'
          obtain rfl : pl = pl' := by simpa using h1'
          have h3' : g pl.b = boxLab id fr := h3
          have ht : Trans w w g (upd1 g pl.b .free) := by
            refine ⟨rfl, rfl, rfl, Nat.le_refl _, fun b hb => ?_⟩
            by_cases hbe : b = pl.b
            · subst hbe
              rw [h3', upd1_self]
              cases fr with
              | true => exact ⟨rfl, rfl⟩
              | false => exact ⟨.inl rfl, fun _ _ _ hh => hh⟩
            · rw [upd1_other _ _ _ hbe]
              exact (Trans.refl w g).blk b hb
          have he : EnvLe (s.env w g β) ((s.setEnt id (.obj v true c)).env w (upd1 g pl.b .free) β) := EnvLe.setEnt hs (Nat.le_refl _) ht (fun _ _ => rfl) (fun _ => rfl)
          refine ⟨upd1 g pl.b .free, h.step (slots_setEnt _ _ _) ht he ?_, he, ht, ?_⟩
          · refine Objs.setEnt h.objs (by rw [hs]; simp) he (fun _ _ => rfl) (fun i ver fr' c' pl' hi hent hpl => ⟨rfl, ?_⟩) ?_
            · by_cases hbe : pl'.b = pl.b
              · rw [hbe, upd1_self]
                have hl := (h.objs i ver fr' c' hent).label (pl := pl') hpl
                have hl2 : (∃ k, g pl'.b = .own (.id i) k) ∨ (fr' = true ∧ g pl'.b = .free) := hl.2
                rw [hbe, h3'] at hl2
                cases fr with
                | true => exact h3'.symm ▸ rfl
                | false =>
                  exfalso
                  rcases hl2 with ⟨k, hk⟩ | ⟨_, hk⟩
                  · simp only [boxLab, Lab.own.injEq, Own.id.injEq] at hk
                    exact hi hk.1.symm
                  · cases hk
              · rw [upd1_other _ _ _ hbe]
            · exact BoxR.obj ⟨pl, cur, e, hp, h2, upd1_self _ _ _, h5, V.mono he h4⟩
          · intro v1 fr1 c1 hh pl1 hpl1 j x hx hj
            obtain rfl : pl = pl1 := by simpa using hpl1
            unfold okAt; rw [upd1_self]; trivial
        · cases c <;> first | (exact absurd rfl hn) | skip
          rename_i e t l
          obtain ⟨hz, ho⟩ := hob
          have ho' : (match β id with
            | none => l = []
            | some pl => ∃ cur k, w.heap[pl.b]? = some (.cells cur e (0, 0)) ∧ cur.size = pl.cap * t.size ∧ l.length ≤ pl.cap ∧ pl.cap ≤ maxLen ∧ g pl.b = .own (.id id) k ∧
                k ≤ l.length * t.size ∧ (fr = false → k = 0) ∧ Chunks (Rep (s.env w g β) t) (cur.toList.take (l.length * t.size)) l) := ho
          rw [hp] at ho'
          obtain ⟨cur, k, h1, h2, h3, h4, h5, h6, h7, h8⟩ := ho'
          have ht : Trans w w g (upd1 g pl.b (.own (.id id) (l.length * t.size))) := by
            refine ⟨rfl, rfl, rfl, Nat.le_refl _, fun b hb => ?_⟩
            by_cases hbe : b = pl.b
            · subst hbe
              rw [h5, upd1_self]
              exact ⟨.inr ⟨id, _, rfl, h6⟩, fun _ _ _ hh => hh⟩
            · rw [upd1_other _ _ _ hbe]
              exact (Trans.refl w g).blk b hb
          have he : EnvLe (s.env w g β) ((s.setEnt id (.obj v true (.vec e t l))).env w (upd1 g pl.b (.own (.id id) (l.length * t.size))) β) := EnvLe.setEnt hs (Nat.le_refl _) ht (fun _ _ => rfl) (fun _ => rfl)
          refine ⟨_, h.step (slots_setEnt _ _ _) ht he ?_, he, ht, ?_⟩
          · refine Objs.setEnt h.objs (by rw [hs]; simp) he (fun _ _ => rfl) (fun i ver fr' c' pl' hi hent hpl => ⟨rfl, ?_⟩) ?_
            · by_cases hbe : pl'.b = pl.b
              · exfalso
                have hl := (h.objs i ver fr' c' hent).label (pl := pl') hpl
                have hl2 : (∃ k, g pl'.b = .own (.id i) k) ∨ (fr' = true ∧ g pl'.b = .free) := hl.2
                rw [hbe, h5] at hl2
                rcases hl2 with ⟨k, hk⟩ | ⟨_, hk⟩
                · simp only [Lab.own.injEq, Own.id.injEq] at hk
                  exact hi hk.1.symm
                · cases hk
              · rw [upd1_other _ _ _ hbe]
            · refine ⟨hz, ?_⟩
              show (match β id with
                | none => l = []
                | some pl => _)
              rw [hp]
              exact ⟨cur, _, h1, h2, h3, h4, upd1_self _ _ _, Nat.le_refl _, (by intro hh; cases hh), h8.mono fun c x hx => hx.mono he.mem⟩
          · intro v1 fr1 c1 hh pl1 hpl1 j x hx hj
            obtain rfl : pl = pl1 := by simpa using hpl1
            simp only [Option.some.injEq, Ent.obj.injEq] at hh
            obtain ⟨_, _, rfl⟩ := hh
            unfold okAt; rw [upd1_self]; exact hj

end Go.Ab

/-
  Soundness of the operations, first part: freezing many, data out of values, zero values, loads and stores.
-/
namespace Go.Ab

/-! ### Freezing many -/

/-- Data may hang on the objects of the ids from now on. -/
def Frz (E E' : Env) (ids : List Id) : Prop :=
  ∀ id ∈ ids, ∀ v fr c, E.s id = some (.obj v fr c) → ∀ pl, E.β id = some pl → ∀ j x, E.w.cell? ⟨pl.b, j, none⟩ = some x →
    inVec c j → E'.has pl.b j x

theorem ent_freeze {s : AS} {id i : Id} {v : Nat} {fr : Bool} {c : AVal} (h : s.ent i = some (.obj v fr c)) : ∃ fr', (s.freeze id).ent i = some (.obj v fr' c) := by
  unfold AS.freeze
  by_cases hi : i = id
  · subst hi
    rw [h]
    exact ⟨true, ent_setEnt_self s i _ (by rw [h]; simp)⟩
  · split
    · exact ⟨fr, by rw [ent_setEnt_other s id i _ hi]; exact h⟩
    · exact ⟨fr, h⟩

theorem freezeAll_sound {C : Ctx} {β : Id → Option Pl} {a : Act} {w : World} : ∀ (ids : List Id) {g : Nat → Lab} {s : AS}, Inv C g β s a w →
    ∃ g', Inv C g' β (s.freezeAll ids) a w ∧ EnvLe (s.env w g β) ((s.freezeAll ids).env w g' β) ∧ Trans w w g g' ∧ Frz (s.env w g β) ((s.freezeAll ids).env w g' β) ids
  | [], g, s, h => ⟨g, h, EnvLe.refl _, Trans.refl _ _, fun _ hi => by cases hi⟩
  | id :: ids, g, s, h => by
    obtain ⟨g1, h1, e1, t1, f1⟩ := freeze_sound h id
    obtain ⟨g2, h2, e2, t2, f2⟩ := freezeAll_sound ids h1
    refine ⟨g2, h2, e1.trans e2, t1.trans t2, fun i hi v fr c hs pl hp j x hx hj => ?_⟩
    rcases List.mem_cons.1 hi with rfl | hi
    · exact e2.mem.has _ _ _ ⟨hx, f1 v fr c hs pl hp j x hx hj⟩
    · obtain ⟨fr', hs'⟩ := ent_freeze (id := id) hs
      exact f2 i hi v fr' c hs' pl hp j x hx hj

theorem slots_freeze (s : AS) (id : Id) : (s.freeze id).slots = s.slots := by unfold AS.freeze; split <;> simp
theorem slots_freezeAll : ∀ (ids : List Id) (s : AS), (s.freezeAll ids).slots = s.slots
  | [], _ => rfl
  | id :: ids, s => by rw [AS.freezeAll, slots_freezeAll ids, slots_freeze]
theorem ev_freezeAll (s : AS) (ids : List Id) (x : Operand) : (s.freezeAll ids).ev x = s.ev x := by
  cases x <;> simp [AS.ev, AS.slot, slots_freezeAll]
theorem news_freeze (s : AS) (id : Id) (q : Nat) : (s.freeze id).virgin q = s.virgin q := by
  unfold AS.freeze
  split
  · rename_i v b c h
    cases id with
    | old k => rfl
    | new i j =>
      simp only [AS.setEnt, AS.virgin]
      by_cases hq : i = q
      · subst hq
        simp only [AS.ent] at h
        by_cases hl : i < s.news.length
        · rw [List.getElem?_set_self hl, List.getElem?_eq_getElem hl]
          rw [List.getD_eq_getElem?_getD, List.getElem?_eq_getElem hl] at h ⊢
          simp only [Option.getD_some] at h ⊢
          cases hh : s.news[i] with
          | nil => rw [hh] at h; simp at h
          | cons x xs => cases j <;> simp [List.set]
        · rw [List.set_eq_of_length_le (by omega)]
      · rw [List.getElem?_set_ne hq]
  · rfl
theorem virgin_freezeAll : ∀ (ids : List Id) (s : AS) (q : Nat), (s.freezeAll ids).virgin q = s.virgin q
  | [], _, _ => rfl
  | id :: ids, s, q => by rw [AS.freezeAll, virgin_freezeAll ids, news_freeze]

/-! ### Rows -/

theorem loc_none {e : TypeId} {t : Ty} : ∀ {p : List Stp} {n : Nat} {v : AVal}, (loc (.vec e t []) p).eval = some (n, v) → n = 0 ∧ v = .vec e t []
  | [], n, v, h => by
    simp only [loc, eval_ok, Prod.mk.injEq] at h
    exact ⟨h.1.symm, h.2.symm⟩
  | .arr :: p, n, v, h => by
    simp only [loc] at h
    exact loc_none h
  | .idx i :: p, n, v, h => by simp [loc, eval_chk] at h
  | .fst :: p, n, v, h => by simp only [loc, eval_fail] at h
  | .snd :: p, n, v, h => by simp only [loc, eval_fail] at h

theorem row_sound {E : Env} {s : AS} (hs : E.s = s.ent) (ho : Objs E) {id : Id} {ver : Nat} {p : List Stp} {n : Nat} {t : Ty} {l : List t.den} (h : (s.row id ver p).eval = some (n, ⟨t, l⟩)) :
    ∃ fr c, E.s id = some (.obj ver fr c) ∧ ((E.β id = none ∧ l = [] ∧ n = 0) ∨ ∃ pl cur e, E.β id = some pl ∧ E.w.heap[pl.b]? = some (.cells cur e (0, 0)) ∧ n + l.length * t.size ≤ cur.size ∧
      Chunks (Rep E t) ((cur.toList.drop n).take (l.length * t.size)) l ∧
      ∀ j, j < n + l.length * t.size → inVec c j) := by
  unfold AS.row at h
  cases hob : s.obj id with
  | none => rw [hob] at h; simp only [eval_fail] at h
  | some r =>
    obtain ⟨v, fr, c⟩ := r
    rw [hob] at h
    obtain ⟨h1, h2⟩ := eval_guard.1 h
    obtain ⟨⟨n', v'⟩, h3, h4⟩ := eval_bind.1 h2
    have hv : v = ver := by simpa using h1
    subst hv
    have hent : E.s id = some (.obj v fr c) := by rw [hs]; exact obj_some hob
    refine ⟨fr, c, hent, ?_⟩
    have hO := ho id v fr c hent
    have harr : ∀ (pl : Pl) (cur : Array Value) (e : TypeId) (m : Nat) (t' : Ty) (l' : List t'.den) (n' : Nat), E.β id = some pl → E.w.heap[pl.b]? = some (.cells cur e (0, 0)) → c.isVec = false →
        V E (.d (.arr m t') l') ((cur.toList.drop n').take (AVal.d (.arr m t') l').size) → n' + (AVal.d (.arr m t') l').size ≤ cur.toList.length → (Out.ok (n', (⟨t', l'⟩ : (t : Ty) × List t.den))).eval = some (n, ⟨t, l⟩) →
        ∃ pl cur e, E.β id = some pl ∧ E.w.heap[pl.b]? = some (.cells cur e (0, 0)) ∧ n + l.length * t.size ≤ cur.size ∧ Chunks (Rep E t) ((cur.toList.drop n).take (l.length * t.size)) l ∧
          ∀ j, j < n + l.length * t.size → inVec c j := by
      intro pl cur e m t' l' n' hp hh hn hv hl he
      simp only [eval_ok, Prod.mk.injEq] at he
      obtain ⟨rfl, he⟩ := he
      obtain ⟨rfl, he⟩ := he
      simp only [V, Rep] at hv
      obtain ⟨hv1, hv2⟩ := hv
      have hsz : ∀ (t : Ty) (l : List t.den), l.length = m → (AVal.d (.arr m t) l).size = l.length * t.size := fun t l hh => by simp [AVal.size, Ty.size, hh]
      rw [hsz _ _ hv1] at hv2 hl
      exact ⟨pl, cur, e, hp, hh, by simpa using hl, hv2, fun j _ => inVec.of hn j⟩
    by_cases hn : c.isVec = false
    · right
      obtain ⟨pl, cur, e, hp, hh, hg, _, hV⟩ := hO.box hn
      obtain ⟨u, hu⟩ : ∃ u, c.strip = u := ⟨_, rfl⟩
      rw [hu] at hV h3
      rcases loc_sound p u cur.toList n' v' (VO.of hV) h3 with ⟨rfl, rfl⟩ | ⟨hV', hle⟩
      · cases v' with
        | d t' x => cases t' with
          | arr m t' =>
            refine harr pl cur e m t' x 0 hp hh hn ?_ ?_ (by simpa only using h4)
            · have := hV.size
              rw [List.drop_zero, List.take_of_length_le (by omega)]
              exact hV
            · have := hV.size; omega
          | _ => simp only [eval_fail] at h4
        | vec => simp only [V] at hV
        | _ => simp only [eval_fail] at h4
      · cases v' with
        | d t' x => cases t' with
          | arr m t' => exact harr pl cur e m t' x n' hp hh hn hV' hle (by simpa only using h4)
          | _ => simp only [eval_fail] at h4
        | vec => simp only [V] at hV'
        | _ => simp only [eval_fail] at h4
    · cases c <;> first | (exact absurd rfl hn) | skip
      rename_i e t0 l0
      obtain ⟨hz, hO⟩ := hO
      cases hp : E.β id with
      | none =>
        rw [hp] at hO
        have hl0 : l0 = [] := hO
        subst hl0
        obtain ⟨rfl, rfl⟩ := loc_none h3
        simp only [eval_ok, Prod.mk.injEq] at h4
        obtain ⟨rfl, he⟩ := h4
        obtain ⟨rfl, he⟩ := he
        exact .inl ⟨rfl, rfl, rfl⟩
      | some pl =>
        rw [hp] at hO
        obtain ⟨cur, k, q1, q2, q3, q4, q5, q6, q7, q8⟩ := hO
        right
        have hlen : (cur.toList.take (l0.length * t0.size)).length = l0.length * t0.size := Chunks.length (fun c x hx => Rep.size hx) q8
        have hsize : l0.length * t0.size ≤ cur.size := by rw [q2]; exact Nat.mul_le_mul_right _ q3
        rcases loc_sound (E := E) p (.vec e t0 l0) (cur.toList.take (l0.length * t0.size)) n' v' q8 h3 with ⟨rfl, rfl⟩ | ⟨hV', hle⟩
        · simp only [eval_ok, Prod.mk.injEq] at h4
          obtain ⟨rfl, he⟩ := h4
          obtain ⟨rfl, he⟩ := he
          exact ⟨pl, cur, e, rfl, q1, by omega, by simpa using q8, fun j hj => by show j < l.length * t.size; omega⟩
        · have hle' := hle
          rw [hlen] at hle'
          rw [List.drop_take, List.take_take, Nat.min_eq_left (by omega)] at hV'
          cases v' with
          | d t' x => cases t' with
            | arr m t' =>
              simp only [eval_ok, Prod.mk.injEq] at h4
              obtain ⟨rfl, he⟩ := h4
              obtain ⟨rfl, he⟩ := he
              simp only [V, Rep] at hV'
              obtain ⟨hv1, hv2⟩ := hV'
              have hsz : ∀ (t : Ty) (l : List t.den), l.length = m → (AVal.d (.arr m t) l).size = l.length * t.size := fun t l hh => by simp [AVal.size, Ty.size, hh]
              rw [hsz _ _ hv1] at hv2 hle'
              refine ⟨pl, cur, e, rfl, q1, by omega, hv2, fun j hj => ?_⟩
              show j < l0.length * t0.size
              omega
            | _ => simp only [eval_fail] at h4
          | vec => simp only [V] at hV'
          | _ => simp only [eval_fail] at h4

theorem chunks_cut {E : Env} {t : Ty} {cs : List Value} {l : List t.den} (h : Chunks (Rep E t) cs l) (i len : Nat) : Chunks (Rep E t) ((cs.drop (i * t.size)).take (len * t.size)) (cut l i len) :=
  Chunks.take (fun _ _ hx => hx.size) len (Chunks.drop (fun _ _ hx => hx.size) i h)

theorem cut_length {α : Type} {l : List α} {i len : Nat} (h : i + len ≤ l.length) : (cut l i len).length = len := by
  simp [cut]; omega

/-! ### Data out of values -/

theorem toTy_rep {E E' : Env} {s : AS} (hs : E.s = s.ent) (ho : Objs E) (he : EnvLe E E') : ∀ (v : AVal) (t : Ty) (x : t.den) (cs : List Value), V E v cs → (s.toTy t v).eval = some x → Frz E E' v.shared → Rep E' t cs x
  | .d t' x', t, x, cs, hv, h, _ => by
    have h' : (Out.opt (castTy t' t x')).eval = some x := by cases t <;> simpa only [AS.toTy] using h
    obtain ⟨rfl, h'⟩ := castTy_some (eval_opt.1 h')
    simp only at h'
    subst h'
    simp only [V] at hv
    exact hv.mono he.mem
  | .nils, .slice t, x, cs, hv, h, _ => by
    simp only [AS.toTy, eval_ok] at h
    subst h
    simp only [V] at hv
    simp only [Rep]
    exact ⟨none, 0, [], by simpa using hv, by simp, by simp, fun i v hh => by simp at hh, rfl⟩
  | .sref id ver p c i len, .slice t, x, cs, hv, h, hf => by
    simp only [AS.toTy] at h
    obtain ⟨⟨n, t', l⟩, h1, h2⟩ := eval_bind.1 h
    obtain ⟨h3, h4⟩ := eval_chk.1 h2
    obtain ⟨hty, h5⟩ := castTy_some (eval_opt.1 h4)
    simp only [Ty.slice.injEq] at hty
    have hty' : t' = t := hty
    subst hty'
    simp only at h5
    subst h5
    simp only [decide_eq_true_eq] at h3
    obtain ⟨hc, hlen⟩ := h3
    obtain ⟨fr, c0, hent, hrow⟩ := row_sound hs ho h1
    simp only [V] at hv
    obtain ⟨a, cap, hcs, hle, hsome, hb, hcur⟩ := hv
    have hcur := hcur ⟨fr, c0, hent⟩
    have hxl : (cut l i len).length = len := cut_length hlen
    simp only [Rep]
    refine ⟨a, cap, ?_⟩
    rcases hrow with ⟨hp, hl, _⟩ | ⟨pl, cur, e, hp, hh, hsz, hch, hbound⟩
    · rw [hp] at hcur
      simp only at hcur
      obtain ⟨rfl, rfl, rfl⟩ := hcur
      refine ⟨[], ?_, by omega, by omega, fun _ _ hh => by simp at hh, ?_⟩
      · rw [hxl]; exact hcs
      · have : cut l i 0 = [] := by simp [cut]
        rw [this]; rfl
    · rw [hp] at hcur
      simp only at hcur
      refine ⟨((((cur.toList.drop n).take (l.length * t'.size)).drop (i * t'.size)).take (len * t'.size)), by rw [hxl]; exact hcs, by omega, by rw [hxl]; exact hsome, ?_, (chunks_cut hch i len).mono fun _ _ hx => hx.mono he.mem⟩
      have hmul : (i + len) * t'.size ≤ l.length * t'.size := Nat.mul_le_mul_right _ hlen
      rw [Nat.add_mul] at hmul
      rw [part_mid _ _ _ _ _ hmul]
      intro j v hj
      rw [List.getElem?_take] at hj
      split at hj
      · rename_i hjl
        rw [List.getElem?_drop, hc] at hj
        have hlp : 0 < len := by
          rcases Nat.eq_zero_or_pos len with h0 | h0
          · subst h0; simp at hjl
          · exact h0
        refine ⟨pl.b, c, hcur.1 (.inl hlp), ?_⟩
        refine hf id (by simp [AVal.shared]) ver fr c0 hent pl hp (c + j) v ?_ (hbound _ (by omega))
        rw [cell_of_row E.w pl.b (c + j) cur e (0, 0) hh]
        simpa using hj
      · cases hj
  | .pr a b, .pair ta tb, x, cs, hv, h, hf => by
    simp only [AS.toTy] at h
    obtain ⟨x1, h1, h2⟩ := eval_bind.1 h
    obtain ⟨x2, h3, h4⟩ := eval_bind.1 h2
    obtain rfl := eval_ok.1 h4
    simp only [V] at hv
    obtain ⟨ca, cb, e, ha, hb⟩ := hv
    simp only [Rep]
    exact ⟨ca, cb, e, toTy_rep hs ho he a ta x1 ca ha h1 (fun i hi => hf i (by simp [AVal.shared, hi])), toTy_rep hs ho he b tb x2 cb hb h3 (fun i hi => hf i (by simp [AVal.shared, hi]))⟩
  | .nils, .int _, _, _, _, h, _ | .nils, .bool, _, _, _, h, _ | .nils, .str, _, _, _, h, _ | .nils, .unit, _, _, _, h, _ | .nils, .pair _ _, _, _, _, h, _ | .nils, .arr _ _, _, _, _, h, _ => by simp only [AS.toTy, eval_fail] at h
  | .sref .., .int _, _, _, _, h, _ | .sref .., .bool, _, _, _, h, _ | .sref .., .str, _, _, _, h, _ | .sref .., .unit, _, _, _, h, _ | .sref .., .pair _ _, _, _, _, h, _ | .sref .., .arr _ _, _, _, _, h, _ => by simp only [AS.toTy, eval_fail] at h
  | .pr _ _, .int _, _, _, _, h, _ | .pr _ _, .bool, _, _, _, h, _ | .pr _ _, .str, _, _, _, h, _ | .pr _ _, .unit, _, _, _, h, _ | .pr _ _, .slice _, _, _, _, h, _ | .pr _ _, .arr _ _, _, _, _, h, _ => by simp only [AS.toTy, eval_fail] at h
  | .undef, t, _, _, _, h, _ => by cases t <;> simp only [AS.toTy, eval_fail] at h
  | .gone, t, _, _, _, h, _ => by cases t <;> simp only [AS.toTy, eval_fail] at h
  | .nilp, t, _, _, _, h, _ => by cases t <;> simp only [AS.toTy, eval_fail] at h
  | .nilf, t, _, _, _, h, _ => by cases t <;> simp only [AS.toTy, eval_fail] at h
  | .nilm, t, _, _, _, h, _ => by cases t <;> simp only [AS.toTy, eval_fail] at h
  | .sb _, t, _, _, _, h, _ => by cases t <;> simp only [AS.toTy, eval_fail] at h
  | .ptr .., t, _, _, _, h, _ => by cases t <;> simp only [AS.toTy, eval_fail] at h
  | .rptr .., t, _, _, _, h, _ => by cases t <;> simp only [AS.toTy, eval_fail] at h
  | .fn .., t, _, _, _, h, _ => by cases t <;> simp only [AS.toTy, eval_fail] at h
  | .cons .., t, _, _, _, h, _ => by cases t <;> simp only [AS.toTy, eval_fail] at h
  | .nil, t, _, _, _, h, _ => by cases t <;> simp only [AS.toTy, eval_fail] at h
  | .vec .., t, _, _, _, h, _ => by cases t <;> simp only [AS.toTy, eval_fail] at h
  | .bx .., t, _, _, _, h, _ => by cases t <;> simp only [AS.toTy, eval_fail] at h

theorem toTy_celled {s : AS} {t : Ty} {v : AVal} {x : t.den} (h : (s.toTy t v).eval = some x) : v.celled = true := by
  cases v <;> first
    | rfl
    | (cases t <;> simp only [AS.toTy, eval_fail] at h)

theorem toTy_agg {s : AS} {t : Ty} {v : AVal} {x : t.den} (h : (s.toTy t v).eval = some x) : v.agg = t.agg := by
  cases v with
  | d t' x' =>
    have h' : (Out.opt (castTy t' t x')).eval = some x := by cases t <;> simpa only [AS.toTy] using h
    obtain ⟨rfl, _⟩ := castTy_some (eval_opt.1 h')
    rfl
  | _ => cases t <;> first | rfl | (simp only [AS.toTy, eval_fail] at h)

/-- A value in a slot, as data. -/
theorem toTy_sound {C : Ctx} {g : Nat → Lab} {β : Id → Option Pl} {s : AS} {a : Act} {w : World} (h : Inv C g β s a w) {v : AVal} {y : Value} (hv : VS (s.env w g β) v y) {t : Ty} {x : t.den} (ht : (s.toTy t v).eval = some x) :
    ∃ g', Inv C g' β (s.freezeAll v.shared) a w ∧ EnvLe (s.env w g β) ((s.freezeAll v.shared).env w g' β) ∧ Trans w w g g' ∧
      ∃ cs, Rep ((s.freezeAll v.shared).env w g' β) t cs x ∧ OfCells t.agg cs y := by
  obtain ⟨g', h1, h2, h3, h4⟩ := freezeAll_sound v.shared h
  obtain ⟨cs, hV, hO⟩ := hv.celled (toTy_celled ht)
  exact ⟨g', h1, h2, h3, cs, toTy_rep rfl h.objs h2 v t x cs hV ht h4, by rw [← toTy_agg ht]; exact hO⟩

/-! ### Zero values -/

theorem eatL_sound {α : Type} {R : List Value → α → Prop} {f : α → List Value → Option (List Value)} (hf : ∀ x cs r, f x cs = some r → ∃ c, cs = c ++ r ∧ R c x) :
    ∀ (l : List α) (cs r : List Value), eatL f l cs = some r → ∃ c, cs = c ++ r ∧ Chunks R c l
  | [], cs, r, h => by
    simp only [eatL, Option.some.injEq] at h
    exact ⟨[], by simp [h], rfl⟩
  | x :: xs, cs, r, h => by
    simp only [eatL] at h
    cases hx : f x cs with
    | none => rw [hx] at h; cases h
    | some r1 =>
      rw [hx] at h
      obtain ⟨c1, e1, h1⟩ := hf x cs r1 hx
      obtain ⟨c2, e2, h2⟩ := eatL_sound hf xs r1 r h
      exact ⟨c1 ++ c2, by rw [e1, e2, List.append_assoc], c1, c2, rfl, h1, h2⟩

theorem eatT_sound (E : Env) : ∀ (t : Ty) (x : t.den) (cs r : List Value), eatT t x cs = some r → ∃ c, cs = c ++ r ∧ Rep E t c x
  | .int k, x, cs, r, h => by
    cases cs with
    | nil => simp [eatT] at h
    | cons v r' =>
      cases v <;> simp only [eatT] at h <;> try (cases h; done)
      rename_i k' n
      split at h
      · rename_i h1 h2
        simp at h1 h2 h
        subst h1 h2 h
        exact ⟨[.int k n], rfl, by simp [Rep]⟩
      · cases h
  | .bool, x, cs, r, h => by
    cases cs with
    | nil => simp [eatT] at h
    | cons v r' =>
      cases v <;> simp only [eatT] at h <;> try (cases h; done)
      rename_i b
      split at h
      · rename_i h1
        simp at h1 h
        subst h1 h
        exact ⟨[.bool b], rfl, by simp [Rep]⟩
      · cases h
  | .str, x, cs, r, h => by
    cases cs with
    | nil => simp [eatT] at h
    | cons v r' =>
      cases v <;> simp only [eatT] at h <;> try (cases h; done)
      rename_i b
      split at h
      · rename_i h1
        simp at h1 h
        subst h1 h
        exact ⟨[.string b], rfl, by simp [Rep]⟩
      · cases h
  | .slice t, x, cs, r, h => by
    cases x with
    | cons _ _ => simp [eatT] at h
    | nil =>
      cases cs with
      | nil => simp [eatT] at h
      | cons v r' =>
        unfold eatT at h
        split at h <;> try (cases h; done)
        all_goals simp_all
        exact ⟨[.slice none 0 0], rfl, by simp only [Rep]; exact ⟨none, 0, [], rfl, by simp, by simp, fun i v hh => by simp at hh, rfl⟩⟩
  | .unit, x, cs, r, h => by
    simp only [eatT, Option.some.injEq] at h
    exact ⟨[], by simp [h], by simp [Rep]⟩
  | .pair a b, x, cs, r, h => by
    simp only [eatT] at h
    cases hx : eatT a x.1 cs with
    | none => rw [hx] at h; cases h
    | some r1 =>
      rw [hx] at h
      obtain ⟨c1, e1, h1⟩ := eatT_sound E a x.1 cs r1 hx
      obtain ⟨c2, e2, h2⟩ := eatT_sound E b x.2 r1 r h
      exact ⟨c1 ++ c2, by rw [e1, e2, List.append_assoc], by simp only [Rep]; exact ⟨c1, c2, rfl, h1, h2⟩⟩
  | .arr n t, x, cs, r, h => by
    simp only [eatT] at h
    split at h
    · rename_i h1
      obtain ⟨c, e, hc⟩ := eatL_sound (fun x cs r hh => eatT_sound E t x cs r hh) _ _ _ h
      exact ⟨c, e, by simp only [Rep]; exact ⟨by simpa using h1, hc⟩⟩
    · cases h

theorem eatA_sound (E : Env) : ∀ (a : AVal) (cs r : List Value), eatA a cs = some r → ∃ c, cs = c ++ r ∧ V E a c := by
  intro a
  induction a with
  | d t x =>
    intro cs r h
    simp only [eatA] at h
    obtain ⟨c, e, hc⟩ := eatT_sound E t x cs r h
    exact ⟨c, e, by simpa only [V] using hc⟩
  | pr a b iha ihb =>
    intro cs r h
    simp only [eatA] at h
    cases hx : eatA a cs with
    | none => rw [hx] at h; cases h
    | some r1 =>
      rw [hx] at h
      obtain ⟨c1, e1, h1⟩ := iha cs r1 hx
      obtain ⟨c2, e2, h2⟩ := ihb r1 r h
      exact ⟨c1 ++ c2, by rw [e1, e2, List.append_assoc], by simp only [V]; exact ⟨c1, c2, rfl, h1, h2⟩⟩
  | nils => intro cs r h; unfold eatA at h; split at h <;> simp_all <;> exact ⟨[.slice none 0 0], rfl, by simp [V]⟩
  | nilp => intro cs r h; unfold eatA at h; split at h <;> simp_all <;> exact ⟨[.pointer none], rfl, by simp [V]⟩
  | nilf => intro cs r h; unfold eatA at h; split at h <;> simp_all <;> exact ⟨[.nilFunc], rfl, by simp [V]⟩
  | nilm => intro cs r h; unfold eatA at h; split at h <;> simp_all <;> exact ⟨[.map none], rfl, by simp [V]⟩
  | _ => intro cs r h; simp [eatA] at h

theorem zchk_sound {P : Program} {T : TypeId} {z : AVal} (h : zchk P T z = true) (E : Env) :
    ∃ i zv, P.info? T = some i ∧ i.zero = some zv ∧ V E z zv.cells.toList ∧ OfCells z.agg zv.cells.toList zv := by
  unfold zchk at h
  split at h <;> try (cases h; done)
  rename_i i hi
  split at h <;> try (cases h; done)
  rename_i zv hz
  simp only [Bool.and_eq_true, beq_iff_eq] at h
  obtain ⟨h1, h2⟩ := h
  split at h1 <;> try (cases h1; done)
  rename_i he
  obtain ⟨c, e, hV⟩ := eatA_sound E z _ _ he
  rw [List.append_nil] at e
  rw [← e] at hV
  refine ⟨i, zv, hi, hz, hV, ?_⟩
  cases hagg : z.agg with
  | true =>
    rw [hagg] at h2
    cases zv <;> simp [isAggV] at h2
    simp [OfCells, Value.cells]
  | false =>
    rw [hagg] at h2
    cases zv <;> first | (simp [isAggV] at h2; done) | simp [OfCells, Value.cells]

end Go.Ab
/-
  Soundness of the operations, second part: what only computes; new blocks; loads and stores.
-/
namespace Go.Ab

/-- What an operation does: it yields a value, nothing, or calls. -/
def Runs (P : Program) (o : Oper) (a : Act) (w : World) (K : Act → World → Prop) : Prop :=
  (∃ x w', (execOp a.eval o).run P w = .ok (.value x) w' ∧ K (a.put o.dst x) w') ∨
  (∃ w', (execOp a.eval o).run P w = .ok .skip w' ∧ K (a.put o.dst undef) w') ∨
  (∃ f args w', (execOp a.eval o).run P w = .ok (.enter f args) w' ∧ Calls P f args w' fun e w'' => ∃ x, e = .returned x ∧ K (a.put o.dst x) w'')

theorem Runs.wp {P : Program} {o : Oper} {a : Act} {w : World} {K : Act → World → Prop} {Q : Exit → Act → World → Prop} (h : Runs P o a w K) : o.wp P a w K Q := by
  unfold Oper.wp
  rcases h with ⟨x, w', hr, hk⟩ | ⟨w', hr, hk⟩ | ⟨f, args, w', hr, hk⟩
  · rw [hr, Oper.upon_value]; exact hk
  · rw [hr, Oper.upon_skip]; exact hk
  · rw [hr, Oper.upon_enter]
    refine hk.mono fun e w'' ⟨x, he, hx⟩ => ?_
    subst he
    exact hx

theorem Runs.mono {P : Program} {o : Oper} {a : Act} {w : World} {K K' : Act → World → Prop} (h : Runs P o a w K) (hk : ∀ a w, K a w → K' a w) : Runs P o a w K' := by
  rcases h with ⟨x, w', hr, h⟩ | ⟨w', hr, h⟩ | ⟨f, args, w', hr, h⟩
  · exact .inl ⟨x, w', hr, hk _ _ h⟩
  · exact .inr (.inl ⟨w', hr, hk _ _ h⟩)
  · exact .inr (.inr ⟨f, args, w', hr, h.mono fun e w'' ⟨x, he, hx⟩ => ⟨x, he, hk _ _ hx⟩⟩)

section
variable {P : Program} {C : Ctx} {g : Nat → Lab} {β : Id → Option Pl} {s : AS} {a : Act} {w : World} {o : Oper}

/-- A value, nothing written. -/
theorem Inv.value (h : Inv C g β s a w) {v : AVal} {x : Value} (hv : VS (s.env w g β) v x) (hr : (execOp a.eval o).run P w = .ok (.value x) w) : Runs P o a w (Sts C (s.put o.dst v)) :=
  .inl ⟨x, w, hr, g, β, h.put o.dst hv⟩

theorem exec_value {f : Sem Value} {x : Value} {w' : World} (he : execOp a.eval o = (do pure (.value (← f)))) (hf : f.run P w = .ok x w') : (execOp a.eval o).run P w = .ok (.value x) w' := by
  rw [he, Sem.run_bind, hf]; rfl

theorem exec_skip {f : Sem Unit} {w' : World} (he : execOp a.eval o = (do f; pure .skip)) (hf : f.run P w = .ok () w') : (execOp a.eval o).run P w = .ok .skip w' := by
  rw [he, Sem.run_bind, hf]; rfl

theorem int_of {E : Env} {k : IntKind} {n : Int} {y : Value} (h : VS E (.d (.int k) n) y) : y = .int k n := by
  obtain ⟨cs, hv, ho⟩ := h
  simp only [V, Rep] at hv
  have ho' : cs = [y] := ho
  rw [hv] at ho'
  simpa using ho'.symm
theorem bool_of {E : Env} {b : Bool} {y : Value} (h : VS E (.d .bool b) y) : y = .bool b := by
  obtain ⟨cs, hv, ho⟩ := h
  simp only [V, Rep] at hv
  have ho' : cs = [y] := ho
  rw [hv] at ho'
  simpa using ho'.symm
theorem str_of {E : Env} {b : ByteArray} {y : Value} (h : VS E (.d .str b) y) : y = .string b := by
  obtain ⟨cs, hv, ho⟩ := h
  simp only [V, Rep] at hv
  have ho' : cs = [y] := ho
  rw [hv] at ho'
  simpa using ho'.symm
theorem VS_int {E : Env} (k : IntKind) (n : Int) : VS E (.d (.int k) n) (.int k n) := ⟨[.int k n], by simp [V, Rep], rfl⟩
theorem VS_bool {E : Env} (b : Bool) : VS E (.d .bool b) (.bool b) := ⟨[.bool b], by simp [V, Rep], rfl⟩
theorem VS_str {E : Env} (b : ByteArray) : VS E (.d .str b) (.string b) := ⟨[.string b], by simp [V, Rep], rfl⟩

/-! ### Types -/

theorem info_of {T : TypeId} {d : TypeDesc} (h : P.underlying T = some d) : ∃ i, P.info? T = some i := by
  unfold Program.underlying at h
  split at h
  · rename_i h'; exact ⟨_, h'⟩
  · rename_i i _ h'; exact ⟨_, h'⟩
  · cases h

theorem run_sizeOf {T : TypeId} {i : TypeInfo} (h : P.info? T = some i) (w : World) : (sizeOf T).run P w = .ok i.size w := by
  simp [sizeOf, typeInfo, h]

theorem cellsOf_eq {T : TypeId} {i : TypeInfo} (h : P.info? T = some i) : P.cellsOf T = i.size := by simp [Program.cellsOf, h]

theorem fits_sound {T : TypeId} {v : AVal} (h : fits P T v = true) : v.celled = true ∧ ∃ i, P.info? T = some i ∧ i.size = v.size ∧ ∀ w, (isAgg T).run P w = .ok v.agg w := by
  unfold fits at h
  simp only [Bool.and_eq_true, beq_iff_eq] at h
  obtain ⟨⟨h1, h2⟩, h3⟩ := h
  cases hu : P.underlying T with
  | none => rw [hu] at h3; cases h3
  | some d =>
    obtain ⟨i, hi⟩ := info_of hu
    refine ⟨h1, i, hi, by rw [cellsOf_eq hi] at h2; exact h2, fun w => ?_⟩
    rw [hu] at h3
    unfold isAgg
    rw [Sem.run_bind, run_underlying hu w]
    cases d <;> simp at h3 <;> simp [h3]

/-- Cells that are read as a variable. -/
theorem run_loadVar_of {T : TypeId} {v : AVal} (hf : fits P T v = true) {b off : Nat} {cs : List Value} (hl : cs.length = v.size) (hc : ∀ j x, cs[j]? = some x → w.cell? ⟨b, off + j, none⟩ = some x) :
    ∃ y, (loadVar T ⟨b, off, none⟩).run P w = .ok y w ∧ OfCells v.agg cs y := by
  obtain ⟨_, i, hi, hs, hagg⟩ := fits_sound hf
  unfold loadVar
  rw [Sem.run_bind, hagg w]
  simp only [Result.andThen_ok]
  have hcell : ∀ j x, cs[j]? = some x → w.cell? ((⟨b, off, none⟩ : Addr).add j) = some x := fun j x hj => by
    rw [Addr.add_lit]; exact hc j x hj
  cases ha : v.agg with
  | true =>
    refine ⟨.agg cs.toArray, ?_, rfl⟩
    simp only [if_true, Sem.run_bind, run_sizeOf hi, Result.andThen_ok, hs, ← hl, run_loadCells_list w _ cs hcell]
    rfl
  | false =>
    have h1 : v.size = 1 := AVal.size_one ha
    obtain ⟨y, rfl⟩ : ∃ y, cs = [y] := by
      match cs, hl with
      | [y], _ => exact ⟨y, rfl⟩
      | [], hh => simp [h1] at hh
      | _ :: _ :: _, hh => simp [h1] at hh
    refine ⟨y, ?_, rfl⟩
    have := hc 0 y rfl
    rw [Nat.add_zero] at this
    simp [this]

theorem run_storeVar_of {T : TypeId} {v : AVal} {E : Env} (hf : fits P T v = true) {cs : List Value} {y : Value} (hV : V E v cs) (ho : OfCells v.agg cs y) {b off : Nat} {cur : Array Value} {e : TypeId}
    (hh : w.heap[b]? = some (.cells cur e (0, 0))) (hle : off + cs.length ≤ cur.size) :
    (storeVar T ⟨b, off, none⟩ y).run P w = .ok () (w.setRow b (splice cur.toList off cs).toArray) := by
  obtain ⟨_, i, hi, hs, _⟩ := fits_sound hf
  have hcs : y.cells = cs.toArray := ho.cells hV.one
  have hl := hV.size
  have hst := run_storeCells_at P b off e cs 0 cur w hh (by simpa using hle) hV.one
  simp only [Nat.add_zero] at hst
  unfold storeVar
  simp only [hcs, Sem.run_bind, run_sizeOf hi, Result.andThen_ok, List.size_toArray, hl, hs, ne_eq, not_true_eq_false, if_false]
  simpa [splice] using hst

/-! ### New blocks -/

theorem alloc_lt (w : World) (ob : Obj) {b : Nat} (h : b < w.heap.size) : (w.alloc ob).heap[b]? = w.heap[b]? := by
  show (w.heap.push ob)[b]? = w.heap[b]?
  rw [Array.getElem?_push, if_neg (Nat.ne_of_lt h)]
theorem alloc_at (w : World) (ob : Obj) : (w.alloc ob).heap[w.heap.size]? = some ob := by
  show (w.heap.push ob)[w.heap.size]? = some ob
  simp

/-- A new block that nobody writes. -/
theorem Trans.alloc (w : World) (g : Nat → Lab) (ob : Obj) (l : Lab) : Trans w (w.alloc ob) g (upd1 g w.heap.size l) := by
  refine ⟨rfl, rfl, rfl, by simp, fun b hb => ?_⟩
  rw [upd1_other _ _ _ (by omega), alloc_lt w ob hb]
  cases g b with
  | free => exact ⟨rfl, rfl⟩
  | own o k => cases o with
    | foreign => exact ⟨rfl, rfl⟩
    | id i => exact ⟨.inr ⟨i, k, rfl, Nat.le_refl _⟩, fun off v _ hv => by rw [World.cell?_alloc_lt w ob _ hb]; exact hv⟩

theorem Trans.drew (w : World) (g : Nat → Lab) : Trans w w.drew g g := Trans.refl w g |> fun h => ⟨h.os, h.tape, h.output, h.size, h.blk⟩

/-- The objects, when memory changes elsewhere and no object does. -/
theorem Objs.same {w' : World} {g' : Nat → Lab} (h : Objs (s.env w g β)) (he : EnvLe (s.env w g β) (s.env w' g' β))
    (hb : ∀ i ver fr c pl, s.ent i = some (.obj ver fr c) → β i = some pl → w'.heap[pl.b]? = w.heap[pl.b]? ∧ g' pl.b = g pl.b) : Objs (s.env w' g' β) :=
  fun i ver fr c hi => (h i ver fr c hi).mono he rfl fun pl hp => hb i ver fr c pl hi hp

theorem EnvLe.same {w' : World} {g' : Nat → Lab} (ht : Trans w w' g g') : EnvLe (s.env w g β) (s.env w' g' β) :=
  ⟨Trans.mem ht, fun _ _ h => h, fun _ _ _ h => ⟨h, rfl⟩⟩

theorem Inv.allocFree (h : Inv C g β s a w) (ob : Obj) : Inv C (upd1 g w.heap.size .free) β s a (w.alloc ob) := by
  have ht := Trans.alloc w g ob .free
  have he : EnvLe (s.env w g β) (s.env (w.alloc ob) (upd1 g w.heap.size .free) β) := EnvLe.same ht
  refine h.step rfl ht he (Objs.same h.objs he fun i ver fr c pl hi hp => ?_)
  have hl := ((h.objs i ver fr c hi).label (pl := pl) hp).1
  have hl' : pl.b < w.heap.size := hl
  exact ⟨alloc_lt w ob hl', upd1_other _ _ _ (by omega)⟩

theorem Inv.drew (h : Inv C g β s a w) : Inv C g β s a w.drew := by
  have ht := Trans.drew w g
  have he : EnvLe (s.env w g β) (s.env w.drew g β) := EnvLe.same ht
  exact h.step rfl ht he (Objs.same h.objs he fun _ _ _ _ _ _ _ => ⟨rfl, rfl⟩)

theorem virgin_ent {q : Nat} (h : s.virgin q = true) : (∀ j, s.ent (.new q j) = none) ∧ q < s.news.length := by
  unfold AS.virgin at h
  split at h
  · rename_i hn
    refine ⟨fun j => ?_, (List.getElem?_eq_some_iff.1 hn).1⟩
    simp [AS.ent, List.getD_eq_getElem?_getD, hn]
  · cases h

theorem ent_born_new {q : Nat} (hq : q < s.news.length) (es : List Ent) (j : Nat) : (s.born q es).ent (.new q j) = es[j]? := by
  simp [AS.ent, AS.born, List.getD_eq_getElem?_getD, hq]

theorem ent_born_other {q : Nat} (es : List Ent) {id : Id} (h : ∀ j, id ≠ .new q j) : (s.born q es).ent id = s.ent id := by
  cases id with
  | old k => rfl
  | new i j =>
    have : i ≠ q := fun e => h j (by rw [e])
    simp only [AS.ent, AS.born, List.getD_eq_getElem?_getD]
    rw [List.getElem?_set_ne (Ne.symm this)]

def updI (β : Id → Option Pl) (id : Id) (p : Option Pl) : Id → Option Pl := fun i => if i = id then p else β i
@[simp] theorem updI_self (β : Id → Option Pl) (id : Id) (p : Option Pl) : updI β id p id = p := by simp [updI]
theorem updI_other (β : Id → Option Pl) (id : Id) (p : Option Pl) {i : Id} (h : i ≠ id) : updI β id p i = β i := by simp [updI, h]

/-- An object of its own, made at a site. -/
theorem Inv.bornAt (h : Inv C g β s a w) {q : Nat} (hq : s.virgin q = true) {w' : World} {g' : Nat → Lab} {c : AVal} {p : Option Pl} (ht : Trans w w' g g')
    (hb : ∀ b, b < w.heap.size → w'.heap[b]? = w.heap[b]? ∧ g' b = g b)
    (ho : EnvLe (s.env w g β) ((s.born q [.obj 0 false c]).env w' g' (updI β (.new q 0) p)) → ObjR ((s.born q [.obj 0 false c]).env w' g' (updI β (.new q 0) p)) (.new q 0) false c) :
    Inv C g' (updI β (.new q 0) p) (s.born q [.obj 0 false c]) a w' ∧ EnvLe (s.env w g β) ((s.born q [.obj 0 false c]).env w' g' (updI β (.new q 0) p)) := by
  obtain ⟨hv, hl⟩ := virgin_ent hq
  have hne : ∀ id, s.ent id ≠ none → ∀ j, id ≠ .new q j := fun id hid j e => hid (by rw [e]; exact hv j)
  have he : EnvLe (s.env w g β) ((s.born q [.obj 0 false c]).env w' g' (updI β (.new q 0) p)) := by
    refine ⟨Trans.mem ht, fun id ver hbd => ?_, fun id ver hbd hc => ?_⟩
    · have hid := hne id hbd.1
      have e := ent_born_other (s := s) [.obj 0 false c] hid
      exact ⟨by show (s.born q _).ent id ≠ none; rw [e]; exact hbd.1, fun v fr c' hh => hbd.2 v fr c' (e.symm.trans hh)⟩
    · have hid := hne id hbd.1
      have e := ent_born_other (s := s) [.obj 0 false c] hid
      obtain ⟨fr, c', hc⟩ := hc
      exact ⟨⟨fr, c', e.symm.trans hc⟩, updI_other _ _ _ (hid 0)⟩
  refine ⟨h.step rfl ht he fun id ver fr c' hid => ?_, he⟩
  have hid' : (s.born q [.obj 0 false c]).ent id = some (.obj ver fr c') := hid
  by_cases hi : ∃ j, id = .new q j
  · obtain ⟨j, rfl⟩ := hi
    rw [ent_born_new hl] at hid'
    cases j with
    | zero =>
      simp only [List.getElem?_cons_zero, Option.some.injEq, Ent.obj.injEq] at hid'
      obtain ⟨rfl, rfl, rfl⟩ := hid'
      exact ho he
    | succ j => simp at hid'
  · have hi' : ∀ j, id ≠ .new q j := fun j e => hi ⟨j, e⟩
    rw [ent_born_other _ hi'] at hid'
    refine (h.objs id ver fr c' hid').mono he (updI_other _ _ _ (hi' 0)) fun pl hp => ?_
    exact hb pl.b ((h.objs id ver fr c' hid').label (pl := pl) hp).1

theorem env_cur_born {q : Nat} (hq : s.virgin q = true) (c : AVal) (w' : World) (g' : Nat → Lab) (β' : Id → Option Pl) : ((s.born q [.obj 0 false c]).env w' g' β').bnd (.new q 0) 0 := by
  have e := ent_born_new (s := s) (virgin_ent hq).2 [.obj 0 false c] 0
  refine ⟨by show (s.born q [.obj 0 false c]).ent (.new q 0) ≠ none; rw [e]; simp, fun v fr c' _ => Nat.zero_le _⟩

/-- A new box. -/
theorem Inv.newBoxC (h : Inv C g β s a w) {q : Nat} (hq : s.virgin q = true) {v : AVal} {cs : List Value} {e : TypeId} (hk : v.boxOk e) (hv : V (s.env w g β) v.strip cs) :
    ∃ g' β', Inv C g' β' (s.born q [.obj 0 false v]) a (w.alloc (.cells cs.toArray e)) ∧
      VS ((s.born q [.obj 0 false v]).env (w.alloc (.cells cs.toArray e)) g' β') (.ptr (.new q 0) 0 [] 0) (.pointer (some ⟨w.heap.size, 0, none⟩)) := by
  have ht := Trans.alloc w g (.cells cs.toArray e) (.own (.id (.new q 0)) 0)
  obtain ⟨h1, h2⟩ := h.bornAt hq (c := v) (p := some ⟨w.heap.size, 0⟩) ht (fun b hb => ⟨alloc_lt w _ hb, upd1_other _ _ _ (by omega)⟩) (fun he =>
    BoxR.obj ⟨⟨w.heap.size, 0⟩, cs.toArray, e, updI_self _ _ _, alloc_at w _, upd1_self _ _ _, hk, by simpa using hv.mono he⟩)
  refine ⟨_, _, h1, ?_⟩
  refine ⟨[.pointer (some ⟨w.heap.size, 0, none⟩)], ?_, rfl⟩
  simp only [V]
  exact ⟨_, rfl, env_cur_born hq _ _ _ _, fun _ => ⟨_, updI_self _ _ _, rfl⟩⟩

theorem Inv.newBox (h : Inv C g β s a w) {q : Nat} (hq : s.virgin q = true) {v : AVal} {cs : List Value} (hv : V (s.env w g β) v cs) (e : TypeId) :
    ∃ g' β', Inv C g' β' (s.born q [.obj 0 false v]) a (w.alloc (.cells cs.toArray e)) ∧
      VS ((s.born q [.obj 0 false v]).env (w.alloc (.cells cs.toArray e)) g' β') (.ptr (.new q 0) 0 [] 0) (.pointer (some ⟨w.heap.size, 0, none⟩)) :=
  h.newBoxC hq (boxOk_not hv.notBx e) (by rw [strip_not hv.notBx]; exact hv)

theorem boxed_ok (P : Program) (T : TypeId) {z : AVal} {E : Env} {cs : List Value} (hv : V E z cs) : (boxed P T z).boxOk T ∧ V E (boxed P T z).strip cs := by
  unfold boxed
  split
  · exact ⟨rfl, hv⟩
  · exact ⟨boxOk_not hv.notBx T, by rw [strip_not hv.notBx]; exact hv⟩

/-- A new block that is only read. -/
theorem Inv.newRead (h : Inv C g β s a w) {t : Ty} {x : t.den} {cs : List Value} (hv : Rep (s.env w g β) t cs x) (e : TypeId) :
    ∃ g', Inv C g' β s a (w.alloc (.cells cs.toArray e)) ∧ EnvLe (s.env w g β) (s.env (w.alloc (.cells cs.toArray e)) g' β) ∧
      VS (s.env (w.alloc (.cells cs.toArray e)) g' β) (.rptr t x) (.pointer (some ⟨w.heap.size, 0, none⟩)) := by
  have ht := Trans.alloc w g (.cells cs.toArray e) .free
  have he : EnvLe (s.env w g β) (s.env (w.alloc (.cells cs.toArray e)) (upd1 g w.heap.size .free) β) := EnvLe.same ht
  refine ⟨_, h.allocFree _, he, [.pointer (some ⟨w.heap.size, 0, none⟩)], ?_, rfl⟩
  simp only [V]
  refine ⟨w.heap.size, 0, cs, rfl, fun i v hi => ⟨_, _, rfl, ?_, ?_⟩, hv.mono he.mem⟩
  · show (w.alloc (.cells cs.toArray e)).cell? ⟨w.heap.size, 0 + i, none⟩ = some v
    rw [World.cell?_alloc_new, Nat.zero_add]; simpa using hi
  · show okAt (upd1 g w.heap.size .free) w.heap.size (0 + i)
    unfold okAt; rw [upd1_self]; trivial

theorem run_newVar (T : TypeId) (y : Value) (w : World) : (newVar T y).run P w = .ok ⟨w.heap.size, 0, none⟩ (w.alloc (.cells y.cells T)) := by
  simp [newVar, newRow]

theorem alloc_runs (h : Inv C g β s a w) {T : TypeId} (ho : o.op = .alloc T) {z : AVal} {q : Nat} (hq : s.virgin q = true) (hz : zchk P T z = true) :
    Runs P o a w (Sts C ((s.born q [.obj 0 false (boxed P T z)]).put o.dst (.ptr (.new q 0) 0 [] 0))) := by
  obtain ⟨i, zv, hi, hzv, hV, hO⟩ := zchk_sound hz (s.env w g β)
  obtain ⟨hk, hV⟩ := boxed_ok P T hV
  obtain ⟨g', β', h1, h2⟩ := h.newBoxC hq hk hV
  refine .inl ⟨.pointer (some ⟨w.heap.size, 0, none⟩), w.alloc (.cells zv.cells T), ?_, g', β', ?_⟩
  · refine exec_value (f := Instr.alloc T true (.tuple #[])) (by simp only [execOp, ho]) ?_
    simp [Instr.alloc, zeroValue, typeInfo, hi, hzv, run_newVar]
  · have := h1.put o.dst h2
    simpa using this

theorem box_runs (h : Inv C g β s a w) {T : TypeId} {x : Operand} {obj : Bool} (ho : o.op = .box T x) {s' : AS} (he : (boxA P s obj o.dst T (s.ev x)).eval = some s') : Runs P o a w (Sts C s') := by
  unfold boxA at he
  cases hd : o.dst with
  | none => rw [hd] at he; simp only [eval_fail] at he
  | some q =>
    rw [hd] at he
    have hev := h.ev x
    have hrun : ∀ cs : List Value, (a.eval x).cells = cs.toArray → (execOp a.eval o).run P w = .ok (.value (.pointer (some ⟨w.heap.size, 0, none⟩))) (w.alloc (.cells cs.toArray T)) := by
      intro cs hcs
      refine exec_value (f := Instr.box T (a.eval x)) (by simp only [execOp, ho]) ?_
      simp [Instr.box, run_newVar, hcs]
    cases obj with
    | true =>
      obtain ⟨hg, hok⟩ := eval_guard.1 he
      obtain rfl := eval_ok.1 hok
      simp only [Bool.and_eq_true] at hg
      obtain ⟨hq, hf⟩ := hg
      obtain ⟨hc, _⟩ := fits_sound hf
      obtain ⟨cs, hV, hO⟩ := hev.celled hc
      obtain ⟨g', β', h1, h2⟩ := h.newBox hq hV T
      refine .inl ⟨_, _, hrun cs (hO.cells hV.one), g', β', ?_⟩
      rw [hd]
      exact h1.put (some q) h2
    | false =>
      simp only at he
      cases ht : tyOf P depth T with
      | none => rw [ht] at he; simp only [eval_fail] at he
      | some t =>
        rw [ht] at he
        obtain ⟨_, he⟩ := eval_guard.1 he
        obtain ⟨y, h1, h2⟩ := eval_bind.1 he
        obtain rfl := eval_ok.1 h2
        obtain ⟨g1, i1, e1, t1, cs, hR, hO⟩ := toTy_sound h hev h1
        obtain ⟨g2, i2, e2, hv⟩ := i1.newRead hR T
        refine .inl ⟨_, _, hrun cs (hO.cells hR.one), g2, β, ?_⟩
        rw [hd]
        exact i2.put (some q) hv

theorem rptr_of {E : Env} {t : Ty} {x : t.den} {y : Value} (h : VS E (.rptr t x) y) : ∃ b off vs, y = .pointer (some ⟨b, off, none⟩) ∧ RowAt E (some ⟨b, off, none⟩) vs ∧ Rep E t vs x := by
  obtain ⟨cs, hv, ho⟩ := h
  simp only [V] at hv
  obtain ⟨b, off, vs, e, hr, hx⟩ := hv
  have ho' : cs = [y] := ho
  rw [e] at ho'
  exact ⟨b, off, vs, by simpa using ho'.symm, hr, hx⟩

theorem ptr_of {E : Env} {id : Id} {ver n : Nat} {p : List Stp} {y : Value} (h : VS E (.ptr id ver p n) y) :
    ∃ a, y = .pointer (some a) ∧ E.bnd id ver ∧ (E.cur id ver → ∃ pl, E.β id = some pl ∧ a = ⟨pl.b, n, none⟩) := by
  obtain ⟨cs, hv, ho⟩ := h
  simp only [V] at hv
  obtain ⟨a, e, hb, hc⟩ := hv
  have ho' : cs = [y] := ho
  rw [e] at ho'
  exact ⟨a, by simpa using ho'.symm, hb, hc⟩

theorem sref_of {E : Env} {id : Id} {ver c i len : Nat} {p : List Stp} {y : Value} (h : VS E (.sref id ver p c i len) y) :
    ∃ a cap, y = .slice a len cap ∧ len ≤ cap ∧ (0 < len → a.isSome = true) ∧ E.bnd id ver ∧
      (E.cur id ver → match E.β id with
        | some pl => (0 < len ∨ i = 0 → a = some ⟨pl.b, c, none⟩) ∧ (p = [] → i = 0 → cap = pl.cap)
        | none => a = none ∧ len = 0 ∧ cap = 0) := by
  obtain ⟨cs, hv, ho⟩ := h
  simp only [V] at hv
  obtain ⟨a, cap, e, rest⟩ := hv
  have ho' : cs = [y] := ho
  rw [e] at ho'
  exact ⟨a, cap, by simpa using ho'.symm, rest⟩

theorem slice_of {E : Env} {t : Ty} {l : List t.den} {y : Value} (h : VS E (.d (.slice t) l) y) :
    ∃ a cap vs, y = .slice a l.length cap ∧ l.length ≤ cap ∧ (0 < l.length → a.isSome = true) ∧ RowAt E a vs ∧ Chunks (Rep E t) vs l := by
  obtain ⟨cs, hv, ho⟩ := h
  simp only [V, Rep] at hv
  obtain ⟨a, cap, vs, e, rest⟩ := hv
  have ho' : cs = [y] := ho
  rw [e] at ho'
  exact ⟨a, cap, vs, by simpa using ho'.symm, rest⟩

theorem nils_of {E : Env} {y : Value} (h : VS E .nils y) : y = .slice none 0 0 := by
  obtain ⟨cs, hv, ho⟩ := h
  simp only [V] at hv
  have ho' : cs = [y] := ho
  rw [hv] at ho'
  simpa using ho'.symm

/-- The cells of an object's content. -/
theorem obj_cells {E : Env} {id : Id} {fr : Bool} {c : AVal} (h : ObjR E id fr c) {p : List Stp} {n : Nat} {v : AVal} (hl : (loc c.strip p).eval = some (n, v)) (hf : v.celled = true) :
    ∃ pl cur e, E.β id = some pl ∧ E.w.heap[pl.b]? = some (.cells cur e (0, 0)) ∧ V E v ((cur.toList.drop n).take v.size) ∧ n + v.size ≤ cur.size := by
  by_cases hn : c.isVec = false
  · obtain ⟨pl, cur, e, hp, hh, hg, _, hV⟩ := h.box hn
    obtain ⟨u, hu⟩ : ∃ u, c.strip = u := ⟨_, rfl⟩
    rw [hu] at hV hl
    rcases loc_sound p u cur.toList n v (VO.of hV) hl with ⟨rfl, rfl⟩ | ⟨h1, h2⟩
    · refine ⟨pl, cur, e, hp, hh, ?_, ?_⟩
      · have := hV.size
        rw [List.drop_zero, List.take_of_length_le (by omega)]
        exact hV
      · have := hV.size
        simp at this ⊢; omega
    · exact ⟨pl, cur, e, hp, hh, h1, by simpa using h2⟩
  · cases c <;> first | (exact absurd rfl hn) | skip
    rename_i e t l
    obtain ⟨hz, h⟩ := h
    cases hp : E.β id with
    | none =>
      rw [hp] at h
      have : l = [] := h
      subst this
      obtain ⟨_, rfl⟩ := loc_none hl
      simp [AVal.celled] at hf
    | some pl =>
      rw [hp] at h
      obtain ⟨cur, k, q1, q2, q3, q4, q5, q6, q7, q8⟩ := h
      have hlen := Chunks.length (fun c x hx => Rep.size hx) q8
      have hsz : l.length * t.size ≤ cur.size := by rw [q2]; exact Nat.mul_le_mul_right _ q3
      rcases loc_sound (E := E) p (.vec e t l) _ n v q8 hl with ⟨rfl, rfl⟩ | ⟨h1, h2⟩
      · simp [AVal.celled] at hf
      · rw [hlen] at h2
        rw [List.drop_take, List.take_take, Nat.min_eq_left (by omega)] at h1
        exact ⟨pl, cur, e, rfl, q1, h1, by omega⟩

theorem load_sound (h : Inv C g β s a w) {T : TypeId} {x : AVal} {y : Value} (hx : VS (s.env w g β) x y) {v : AVal} (he : (loadA P s T x).eval = some v) :
    ∃ ad z, y = .pointer (some ad) ∧ (loadVar T ad).run P w = .ok z w ∧ VS (s.env w g β) v z := by
  unfold loadA at he
  split at he
  · rename_i id ver p n
    cases hob : s.obj id with
    | none => rw [hob] at he; simp only [eval_fail] at he
    | some r =>
      obtain ⟨v0, fr, c⟩ := r
      rw [hob] at he
      obtain ⟨h1, h2⟩ := eval_guard.1 he
      obtain ⟨⟨n', v'⟩, h3, h4⟩ := eval_bind.1 h2
      obtain ⟨h5, h6⟩ := eval_guard.1 h4
      obtain ⟨h7, h8⟩ := eval_chk.1 h6
      obtain rfl := eval_ok.1 h8
      simp only [decide_eq_true_eq] at h7
      have hv0 : v0 = ver := by simpa using h1
      subst hv0 h7
      have hent := obj_some hob
      obtain ⟨ad, rfl, hb, hc⟩ := ptr_of hx
      obtain ⟨pl, hp, rfl⟩ := hc ⟨fr, c, hent⟩
      obtain ⟨hcel, _⟩ := fits_sound h5
      obtain ⟨pl', cur, e, hp', hh, hV, hle⟩ := obj_cells (h.objs id v0 fr c hent) h3 hcel
      rw [hp] at hp'
      obtain rfl : pl = pl' := by simpa using hp'
      obtain ⟨z, hz1, hz2⟩ := run_loadVar_of (P := P) (w := w) h5 (b := pl.b) (off := n') hV.size (fun j x hj => by
        rw [cell_of_row w pl.b (n' + j) cur e (0, 0) hh]
        rw [List.getElem?_take] at hj
        split at hj
        · rw [List.getElem?_drop] at hj; simpa using hj
        · cases hj)
      exact ⟨_, z, rfl, hz1, VS.of hV hz2⟩
  · rename_i t x'
    obtain ⟨h1, h2⟩ := eval_guard.1 he
    obtain rfl := eval_ok.1 h2
    obtain ⟨b, off, vs, rfl, hr, hR⟩ := rptr_of hx
    obtain ⟨z, hz1, hz2⟩ := run_loadVar_of (P := P) (w := w) h1 (b := b) (off := off) hR.size (fun j x hj => by
      obtain ⟨b', off', e, hh⟩ := hr j x hj
      simp only [Option.some.injEq, Addr.mk.injEq, and_true] at e
      obtain ⟨rfl, rfl⟩ := e
      exact hh.1)
    exact ⟨_, z, rfl, hz1, VS.of (by simpa only [V] using hR) hz2⟩
  · simp only [eval_fail] at he

theorem load_runs (h : Inv C g β s a w) {T : TypeId} {x : Operand} (ho : o.op = .load T x) {v : AVal} (he : (loadA P s T (s.ev x)).eval = some v) : Runs P o a w (Sts C (s.put o.dst v)) := by
  obtain ⟨ad, z, hy, hr, hv⟩ := load_sound h (h.ev x) he
  refine h.value hv (exec_value (f := Instr.loadAt T (a.eval x)) (by simp only [execOp, ho]) ?_)
  simp [Instr.loadAt, Instr.sureAddr, hy, hr]

/-- A block of an object is written. -/
theorem Trans.setRow (w : World) {b : Nat} {i : Id} (hg : g b = .own (.id i) 0) (cur : Array Value) : Trans w (w.setRow b cur) g g := by
  refine ⟨by simp, by simp, by simp, by simp, fun b' hb => ?_⟩
  by_cases he : b' = b
  · subst he
    rw [hg]
    exact ⟨.inr ⟨i, 0, rfl, Nat.le_refl _⟩, fun _ _ hh => by omega⟩
  · rw [setRow_other w b b' cur he]
    cases hgb : g b' with
    | free => exact ⟨rfl, rfl⟩
    | own o' k => cases o' with
      | foreign => exact ⟨rfl, rfl⟩
      | id i' => exact ⟨.inr ⟨i', k, rfl, Nat.le_refl _⟩, fun off v _ hv => by rw [cell_setRow_other w b cur _ he]; exact hv⟩

/-- Another object's block is another block. -/
theorem Inv.apart (h : Inv C g β s a w) {id : Id} {k : Nat} {b : Nat} (hg : g b = .own (.id id) k) {i : Id} {ver : Nat} {fr : Bool} {c : AVal} {pl : Pl} (hi : i ≠ id) (hs : s.ent i = some (.obj ver fr c)) (hp : β i = some pl) : pl.b ≠ b := by
  intro hb
  have hl : (∃ k, g pl.b = .own (.id i) k) ∨ (fr = true ∧ g pl.b = .free) := ((h.objs i ver fr c hs).label (pl := pl) hp).2
  rw [hb, hg] at hl
  rcases hl with ⟨k', hk⟩ | ⟨_, hk⟩
  · simp only [Lab.own.injEq, Own.id.injEq] at hk
    exact hi hk.1.symm
  · cases hk

theorem store_sound (h : Inv C g β s a w) {T : TypeId} {x v : AVal} {y z : Value} (hx : VS (s.env w g β) x y) (hz : VS (s.env w g β) v z) {s' : AS} (he : (storeA P s T x v).eval = some s') :
    ∃ ad w', y = .pointer (some ad) ∧ (storeVar T ad z).run P w = .ok () w' ∧ ∃ g' β', Inv C g' β' s' a w' := by
  unfold storeA at he
  split at he
  · rename_i id ver p n
    cases hob : s.obj id with
    | none => rw [hob] at he; simp only [eval_fail] at he
    | some r =>
      obtain ⟨v0, fr, c⟩ := r
      rw [hob] at he
      obtain ⟨h1, h2⟩ := eval_guard.1 he
      obtain ⟨⟨n', o'⟩, h3, h4⟩ := eval_bind.1 h2
      obtain ⟨h5, h6⟩ := eval_guard.1 h4
      obtain ⟨h7, h8⟩ := eval_chk.1 h6
      obtain ⟨c', h9, h10⟩ := eval_bind.1 h8
      obtain rfl := eval_ok.1 h10
      simp only [decide_eq_true_eq] at h7
      simp only [Bool.and_eq_true, beq_iff_eq, Bool.not_eq_true'] at h1
      obtain ⟨⟨hv0, hfr⟩, hfits⟩ := h1
      subst hv0 h7 hfr
      have hent := obj_some hob
      obtain ⟨ad, rfl, hb, hc⟩ := ptr_of hx
      obtain ⟨pl, hp, rfl⟩ := hc ⟨false, c, hent⟩
      have hp : β id = some pl := hp
      obtain ⟨hcel, _⟩ := fits_sound hfits
      obtain ⟨cs, hV, hO⟩ := hz.celled hcel
      have hOb := h.objs id v0 false c hent
      obtain ⟨hcel', _⟩ := fits_sound h5
      have hvec : c.isVec = false ∨ c.isVec = true := by cases c.isVec <;> simp
      rcases hvec with hn | hn
      · obtain ⟨pl', cur, e, hp', hh, hg, hk, hVc⟩ := hOb.box hn
        have hp' : β id = some pl' := hp'
        rw [hp] at hp'
        obtain rfl : pl = pl' := by simpa using hp'
        have hg : g pl.b = .own (.id id) 0 := hg
        have hh : w.heap[pl.b]? = some (.cells cur e (0, 0)) := hh
        obtain ⟨u1, u2, u3⟩ := upd_sound p c.strip cur.toList n' o' v c' cs (VO.of hVc) h3 hV h9
        have u4 := u2.to (u3.notVec hVc.notVec)
        have hrun := run_storeVar_of (P := P) (w := w) hfits hV hO (b := pl.b) (off := n') hh (by simpa using u1)
        have ht := Trans.setRow w hg (splice cur.toList n' cs).toArray
        have hle : EnvLe (s.env w g β) ((s.setEnt id (.obj v0 false (c.wrap c'))).env (w.setRow pl.b (splice cur.toList n' cs).toArray) g β) := EnvLe.setEnt hent (Nat.le_refl _) ht (fun _ _ => rfl) (fun _ => rfl)
        refine ⟨_, _, rfl, hrun, g, β, h.step (slots_setEnt _ _ _) ht hle (Objs.setEnt h.objs (by rw [hent]; simp) hle (fun _ _ => rfl) (fun i ver fr c pl2 hi hs2 hp2 => ⟨setRow_other w pl.b pl2.b _ (h.apart hg hi hs2 hp2), rfl⟩) ?_)⟩
        exact BoxR.obj ⟨pl, _, e, hp, setRow_heap w pl.b cur _ e (0, 0) hh, hg, boxOk_wrap hk u4.notBx, by rw [strip_wrap c u4.notBx]; simpa using V.mono hle u4⟩
      · cases c <;> first | (simp [AVal.isVec] at hn; done) | skip
        rename_i e t l
        obtain ⟨hzz, hOb⟩ := hOb
        have hOb : (match β id with
          | none => l = []
          | some pl => ∃ cur k, w.heap[pl.b]? = some (.cells cur e (0, 0)) ∧ cur.size = pl.cap * t.size ∧ l.length ≤ pl.cap ∧ pl.cap ≤ maxLen ∧ g pl.b = .own (.id id) k ∧
              k ≤ l.length * t.size ∧ (false = false → k = 0) ∧ Chunks (Rep (s.env w g β) t) (cur.toList.take (l.length * t.size)) l) := hOb
        rw [hp] at hOb
        obtain ⟨cur, k, q1, q2, q3, q4, q5, q6, q7, q8⟩ := hOb
        have hk := q7 rfl
        subst hk
        have hlen := Chunks.length (fun c x hx => Rep.size hx) q8
        have hsz : l.length * t.size ≤ cur.size := by rw [q2]; exact Nat.mul_le_mul_right _ q3
        obtain ⟨u1, u2, u3⟩ := upd_sound (E := s.env w g β) p (.vec e t l) _ n' o' v c' cs q8 h3 hV h9
        rw [hlen] at u1
        have hrun := run_storeVar_of (P := P) (w := w) hfits hV hO (b := pl.b) (off := n') q1 (by omega)
        cases c' <;> first | (exact u3.elim) | skip
        rename_i e' t' l'
        obtain ⟨rfl, rfl, hl'⟩ := u3
        have ht := Trans.setRow w q5 (splice cur.toList n' cs).toArray
        have hle : EnvLe (s.env w g β) ((s.setEnt id (.obj v0 false (.vec e' t' l'))).env (w.setRow pl.b (splice cur.toList n' cs).toArray) g β) := EnvLe.setEnt hent (Nat.le_refl _) ht (fun _ _ => rfl) (fun _ => rfl)
        refine ⟨_, _, rfl, hrun, g, β, h.step (slots_setEnt _ _ _) ht hle (Objs.setEnt h.objs (by rw [hent]; simp) hle (fun _ _ => rfl) (fun i ver fr c pl2 hi hs2 hp2 => ⟨setRow_other w pl.b pl2.b _ (h.apart q5 hi hs2 hp2), rfl⟩) ?_)⟩
        refine ⟨hzz, ?_⟩
        show (match β id with
          | none => l' = []
          | some pl => _)
        rw [hp]
        have hsp : (splice cur.toList n' cs).length = cur.toList.length := splice_length (by simp; omega)
        refine ⟨_, 0, setRow_heap w pl.b cur _ e' (0, 0) q1, by rw [List.size_toArray, hsp]; simpa using q2, by omega, q4, q5, by omega, fun _ => rfl, ?_⟩
        have e2 : (splice cur.toList n' cs).take (l'.length * t'.size) = splice (cur.toList.take (l.length * t'.size)) n' cs := by
          rw [hl']
          conv => lhs; rw [← List.take_append_drop (l.length * t'.size) cur.toList]
          rw [splice_left (by rw [hlen]; exact u1), List.take_append_of_le_length (by rw [splice_length (by rw [hlen]; exact u1), hlen]; exact Nat.le_refl _)]
          exact List.take_of_length_le (by rw [splice_length (by rw [hlen]; exact u1), hlen]; exact Nat.le_refl _)
        rw [show (splice cur.toList n' cs).toArray.toList = splice cur.toList n' cs from rfl, e2]
        exact Chunks.mono (fun _ _ hx => hx.mono hle.mem) u2
  · simp only [eval_fail] at he

theorem store_runs (h : Inv C g β s a w) {T : TypeId} {x v : Operand} (ho : o.op = .store T x v) {s' : AS} (he : (storeA P s T (s.ev x) (s.ev v)).eval = some s') : Runs P o a w (Sts C (s'.put o.dst .undef)) := by
  obtain ⟨ad, w', hy, hr, g', β', hi⟩ := store_sound h (h.ev x) (h.ev v) he
  refine .inr (.inl ⟨w', exec_skip (f := Instr.storeAt T (a.eval x) (a.eval v)) (by simp only [execOp, ho]) ?_, g', β', hi.put o.dst VS.undef⟩)
  simp [Instr.storeAt, Instr.sureAddr, hy, hr]

end
end Go.Ab

/-
  Soundness of the operations, third part: values: numbers, tests, parts, places.
-/
namespace Go.Ab

section
variable {P : Program} {C : Ctx} {g : Nat → Lab} {β : Id → Option Pl} {s : AS} {a : Act} {w : World} {o : Oper}

/-! ### Moves, tests -/

theorem move_runs (h : Inv C g β s a w) {x : Operand} (ho : o.op = .move x ∨ o.op = .assign x) : Runs P o a w (Sts C (s.put o.dst (s.ev x))) := by
  refine h.value (h.ev x) ?_
  rcases ho with ho | ho <;> simp [execOp, ho]

theorem pick_runs (h : Inv C g β s a w) {c x y : Operand} (ho : o.op = .pick c x y) {v : AVal} (he : (pickA (s.ev c) (s.ev x) (s.ev y)).eval = some v) : Runs P o a w (Sts C (s.put o.dst v)) := by
  have hc := h.ev c
  have hx := h.ev x
  have hy := h.ev y
  unfold pickA at he
  split at he
  · rename_i b hb
    rw [hb] at hc
    have hcv := bool_of hc
    have hr : (execOp a.eval o).run P w = .ok (.value (if b then a.eval x else a.eval y)) w := by
      simp [execOp, ho, hcv, asBool]
    split at he
    · rename_i bx by' hbx hby
      obtain rfl := eval_ok.1 he
      rw [hbx] at hx
      rw [hby] at hy
      refine h.value ?_ hr
      cases b
      · simpa using hy
      · simpa using hx
    · cases b with
      | true =>
        simp only [Out.eval, Option.some.injEq] at he
        subst he
        exact h.value (by simpa using hx) hr
      | false =>
        simp only [Out.eval, Option.some.injEq] at he
        subst he
        exact h.value (by simpa using hy) hr
  · simp only [eval_fail] at he

theorem nilCheck_runs (h : Inv C g β s a w) {x : Operand} (ho : o.op = .nilCheck x) {s' : AS} (he : (match s.ev x with
    | .ptr id v p n => Out.ok (s.put o.dst (.ptr id v p n))
    | .rptr t y => .ok (s.put o.dst (.rptr t y))
    | .fn f c => .ok (s.put o.dst (.fn f c))
    | _ => .fail).eval = some s') : Runs P o a w (Sts C s') := by
  have hx := h.ev x
  split at he
  · rename_i id v p n hv
    obtain rfl := eval_ok.1 he
    rw [hv] at hx
    obtain ⟨ad, hy, _⟩ := ptr_of hx
    exact h.value hx (by simp [execOp, ho, hy])
  · rename_i t y hv
    obtain rfl := eval_ok.1 he
    rw [hv] at hx
    obtain ⟨b, off, vs, hy, _⟩ := rptr_of hx
    exact h.value hx (by simp [execOp, ho, hy])
  · rename_i f c hv
    obtain rfl := eval_ok.1 he
    rw [hv] at hx
    obtain ⟨cs, hV, hO⟩ := hx.celled rfl
    simp only [V] at hV
    obtain ⟨vs, e, hc⟩ := hV
    have hO' : cs = [a.eval x] := hO
    rw [e] at hO'
    have hy : a.eval x = .func (.func f) #[] vs.toArray := by simpa using hO'.symm
    refine h.value (v := .fn f c) ⟨cs, by simp only [V]; exact ⟨vs, e, hc⟩, hO⟩ (by simp [execOp, ho, hy])
  · simp only [eval_fail] at he

/-! ### Numbers -/

theorem intOp_sound {op : BinOp} {k k' : IntKind} {x y : Int} {v : AVal} (he : (intOp op k x k' y).eval = some v) (T : TypeId) (E : Env) :
    ∃ z, (binOp op T (.int k x) (.int k' y)).run P w = .ok z w ∧ VS E v z := by
  unfold intOp at he
  have same : ∀ (hk : decide (k = k') = true), k = k' := fun hk => by simpa using hk
  cases op with
  | shl =>
    obtain ⟨h1, h2⟩ := eval_chk.1 he
    obtain rfl := eval_ok.1 h2
    have h1 : ¬ y < 0 := by simpa using h1
    exact ⟨_, by simp [binOp, Op.shift, h1], VS_int _ _⟩
  | shr =>
    obtain ⟨h1, h2⟩ := eval_chk.1 he
    obtain rfl := eval_ok.1 h2
    have h1 : ¬ y < 0 := by simpa using h1
    exact ⟨_, by simp [binOp, Op.shift, h1], VS_int _ _⟩
  | quo =>
    obtain ⟨h1, h2⟩ := eval_guard.1 he
    obtain rfl := same h1
    obtain ⟨h3, h4⟩ := eval_chk.1 h2
    obtain rfl := eval_ok.1 h4
    have h3 : y ≠ 0 := by simpa using h3
    exact ⟨_, by simp [binOp, Op.intDiv, h3], VS_int _ _⟩
  | rem =>
    obtain ⟨h1, h2⟩ := eval_guard.1 he
    obtain rfl := same h1
    obtain ⟨h3, h4⟩ := eval_chk.1 h2
    obtain rfl := eval_ok.1 h4
    have h3 : y ≠ 0 := by simpa using h3
    exact ⟨_, by simp [binOp, Op.intDiv, h3], VS_int _ _⟩
  | add | sub | mul =>
    obtain ⟨h1, h2⟩ := eval_guard.1 he
    obtain rfl := same h1
    obtain rfl := eval_ok.1 h2
    exact ⟨_, by simp [binOp, Op.intArith], VS_int _ _⟩
  | and | or | xor | andNot =>
    obtain ⟨h1, h2⟩ := eval_guard.1 he
    obtain rfl := same h1
    obtain rfl := eval_ok.1 h2
    refine ⟨_, ?_, VS_int _ _⟩
    unfold binOp Op.intBits
    simp [bitop]
  | eql | neq | lss | leq | gtr | geq =>
    obtain ⟨h1, h2⟩ := eval_guard.1 he
    obtain rfl := same h1
    obtain rfl := eval_ok.1 h2
    refine ⟨_, ?_, VS_bool _⟩
    simp [binOp, Op.intCmp]

theorem strOp_sound {op : BinOp} {x y : ByteArray} {v : AVal} (he : (strOp op x y).eval = some v) (T : TypeId) (E : Env) :
    ∃ z, (binOp op T (.string x) (.string y)).run P w = .ok z w ∧ VS E v z := by
  unfold strOp at he
  cases op <;> simp only [eval_fail] at he
  case add =>
    obtain ⟨h1, h2⟩ := eval_chk.1 he
    obtain rfl := eval_ok.1 h2
    have h1 : ¬ ((x.size + y.size : Nat) : Int) > IntKind.i64.max := by simpa using h1
    refine ⟨.string (x ++ y), ?_, VS_str _⟩
    show (Op.stringOp .add x y).run P w = _
    unfold Op.stringOp
    simp only [h1, if_false]
    rfl
  all_goals
    obtain rfl := eval_ok.1 he
    exact ⟨_, by simp [binOp, Op.stringOp], VS_bool _⟩

theorem eqGuard_plain {op : BinOp} {T : TypeId} {x y : Operand} {u v : Value} (h1 : u ≠ .nilIface) (h2 : isAggV u = false) : (eqGuard op T x y u v).run P w = .ok () w := by
  unfold eqGuard
  cases op <;> simp
  all_goals (cases u <;> simp_all [isAggV])

/-! ### Parts of structs and arrays -/

theorem isAggT_sound {T : TypeId} {b : Bool} (h : isAggT P T b = true) : ∃ i, P.info? T = some i ∧ ∀ w, (isAgg T).run P w = .ok b w := by
  unfold isAggT at h
  cases hu : P.underlying T with
  | none => rw [hu] at h; cases h
  | some d =>
    obtain ⟨i, hi⟩ := info_of hu
    refine ⟨i, hi, fun w => ?_⟩
    rw [hu] at h
    unfold isAgg
    rw [Sem.run_bind, run_underlying hu w]
    cases d <;> simp at h <;> simp [h]

theorem run_part {T : TypeId} {b : Bool} (h : isAggT P T b = true) {cs : List Value} {off n : Nat} (hn : P.cellsOf T = n) (hb : b = false → n = 1) (hl : off + n ≤ cs.length) :
    ∃ y, (part T cs.toArray off).run P w = .ok y w ∧ OfCells b ((cs.drop off).take n) y := by
  obtain ⟨i, hi, hagg⟩ := isAggT_sound h
  rw [cellsOf_eq hi] at hn
  unfold part
  rw [Sem.run_bind, hagg w]
  simp only [Result.andThen_ok]
  cases b with
  | true =>
    refine ⟨.agg ((cs.drop off).take n).toArray, ?_, rfl⟩
    simp only [if_true, Sem.run_bind, run_sizeOf hi, Result.andThen_ok, hn, Sem.run_pure]
    simp [List.extract_eq_take_drop]
  | false =>
    have h1 := hb rfl
    subst h1
    have hlt : off < cs.length := by omega
    refine ⟨cs[off], ?_, ?_⟩
    · simp [hlt]
    · show (cs.drop off).take 1 = [cs[off]]
      rw [List.drop_eq_getElem_cons hlt, List.take_succ_cons, List.take_zero]

theorem size_one_of {t : Ty} (h : t.agg = false) : t.size = 1 := by
  cases t <;> first | rfl | (simp [Ty.agg] at h)

theorem listBeq_append {α : Type} (f : α → α → Bool) (x y : α) (xs ys : List α) : listBeq f (x :: xs) (y :: ys) = (f x y && listBeq f xs ys) := rfl

/-- '==' goes by the data. -/
theorem equalIn_sound (E : Env) : ∀ (n : Nat) (T : TypeId) (t : Ty), eqChk P n T t = true → ∀ (d : Nat), n ≤ d → ∀ (cx cy : List Value) (x y : t.den) (u v : Value), Rep E t cx x → Rep E t cy y → OfCells t.agg cx u → OfCells t.agg cy v →
    (Op.equalIn d T u v).run P w = .ok (t.beq x y) w
  | 0, T, t, h, _, _, _, _, _, _, _, _, _, _, _, _ => by simp [eqChk] at h
  | n + 1, T, t, h, 0, hd, _, _, _, _, _, _, _, _, _, _ => by omega
  | n + 1, T, t, h, d + 1, hd, cx, cy, x, y, u, v, hx, hy, hu, hv => by
    simp only [eqChk] at h
    split at h
    · rename_i k k' hT
      simp only [Rep] at hx hy
      have e1 : cx = [u] := hu
      have e2 : cy = [v] := hv
      rw [hx] at e1; rw [hy] at e2
      simp only [List.cons.injEq, and_true] at e1 e2
      subst e1 e2
      rw [run_equalIn_int w d T _ _ _ _ hT]; rfl
    · rename_i hT
      simp only [Rep] at hx hy
      have e1 : cx = [u] := hu
      have e2 : cy = [v] := hv
      rw [hx] at e1; rw [hy] at e2
      simp only [List.cons.injEq, and_true] at e1 e2
      subst e1 e2
      rw [run_equalIn_bool' w d T _ _ hT]; rfl
    · rename_i hT
      simp only [Rep] at hx hy
      have e1 : cx = [u] := hu
      have e2 : cy = [v] := hv
      rw [hx] at e1; rw [hy] at e2
      simp only [List.cons.injEq, and_true] at e1 e2
      subst e1 e2
      rw [run_equalIn_string w d T _ _ hT]; rfl
    · rename_i m e m' t' hT
      simp only [Bool.and_eq_true, beq_iff_eq] at h
      obtain ⟨⟨⟨⟨rfl, hz0⟩, hsz⟩, hag⟩, hch⟩ := h
      simp only [Rep] at hx hy
      obtain ⟨hlx, hcx⟩ := hx
      obtain ⟨hly, hcy⟩ := hy
      have e1 : u = .agg cx.toArray := hu
      have e2 : v = .agg cy.toArray := hv
      subst e1 e2
      obtain ⟨i, hi, hagg⟩ := isAggT_sound hag
      have hsz' := hsz
      rw [cellsOf_eq hi] at hsz'
      simp only [Op.equalIn, Sem.run_bind, run_underlying hT, Result.andThen_ok, run_sizeOf hi, hsz']
      simp only [Std.Legacy.Range.forIn_eq_forIn_range']
      have hm : ([:m] : Std.Legacy.Range).size = m := by simp [Std.Legacy.Range.size]
      rw [hm]
      have hzz : ∀ c z, Rep E t' c z → c.length = t'.size := fun c z hz => hz.size
      have bx : t'.agg = false → t'.size = 1 := size_one_of
      have key : ∀ (k : Nat) (x y : List t'.den) (j : Nat), x.length = k → y.length = k → Chunks (Rep E t') (cx.drop (j * t'.size)) x → Chunks (Rep E t') (cy.drop (j * t'.size)) y →
          (forIn (List.range' j k) ((none, ()) : Option Bool × Unit) fun i __s => (do
            let __do_lift ← part e cx.toArray (i * t'.size)
            let __do_lift_1 ← part e cy.toArray (i * t'.size)
            let __do_lift ← Op.equalIn d e __do_lift __do_lift_1
            if (!__do_lift) = true then pure (ForInStep.done (some false, ())) else pure (ForInStep.yield (none, ())) : Sem (ForInStep (Option Bool × Unit)))).run P w = .ok (if listBeq t'.beq x y then none else some false, ()) w := by
        intro k
        induction k with
        | zero =>
          intro x y j hx hy _ _
          rw [List.length_eq_zero_iff.1 hx, List.length_eq_zero_iff.1 hy]
          rfl
        | succ k ih =>
          intro x y j hx hy hcx' hcy'
          cases x with
          | nil => simp at hx
          | cons x0 xs =>
            cases y with
            | nil => simp at hy
            | cons y0 ys =>
              have gx := Chunks.get hzz hcx' 0 (by simp)
              have gy := Chunks.get hzz hcy' 0 (by simp)
              simp only [Nat.zero_mul, List.drop_zero, List.getElem_cons_zero] at gx gy
              have lenx : ((cx.drop (j * t'.size)).take t'.size).length = t'.size := gx.size
              have leny : ((cy.drop (j * t'.size)).take t'.size).length = t'.size := gy.size
              have hz1 : t'.size ≠ 0 := by simpa using hz0
              have hjx : j * t'.size + t'.size ≤ cx.length := by simp only [List.length_take, List.length_drop] at lenx; omega
              have hjy : j * t'.size + t'.size ≤ cy.length := by simp only [List.length_take, List.length_drop] at leny; omega
              obtain ⟨ux, h1, o1⟩ := run_part (w := w) hag hsz bx (cs := cx) (off := j * t'.size) hjx
              obtain ⟨uy, h2, o2⟩ := run_part (w := w) hag hsz bx (cs := cy) (off := j * t'.size) hjy
              have h3 := equalIn_sound E n e t' hch d (by omega) _ _ x0 y0 ux uy gx gy o1 o2
              have nx : Chunks (Rep E t') (cx.drop ((j + 1) * t'.size)) xs := by
                have := Chunks.drop hzz 1 hcx'
                rw [List.drop_drop] at this
                simpa [Nat.add_mul] using this
              have ny : Chunks (Rep E t') (cy.drop ((j + 1) * t'.size)) ys := by
                have := Chunks.drop hzz 1 hcy'
                rw [List.drop_drop] at this
                simpa [Nat.add_mul] using this
              have := ih xs ys (j + 1) (by simpa using hx) (by simpa using hy) nx ny
              rw [List.range'_succ, List.forIn_cons]
              simp only [Sem.run_bind, h1, h2, h3, Result.andThen_ok, listBeq_append]
              rcases Bool.eq_false_or_eq_true (t'.beq x0 y0) with hb | hb
              · simp only [hb, Bool.not_true, Bool.false_eq_true, if_false, Sem.run_pure, Result.andThen_ok, Bool.true_and]
                exact this
              · simp only [hb, Bool.not_false, if_true, Sem.run_pure, Result.andThen_ok, Bool.false_and, Bool.false_eq_true, if_false]
      have := key m x y 0 hlx hly (by simpa using hcx) (by simpa using hcy)
      rw [this]
      show _ = Result.ok (listBeq t'.beq x y) w
      cases listBeq t'.beq x y <;> rfl
    · rename_i t0 _ _ fs hT
      simp only [Bool.and_eq_true, Bool.not_eq_true'] at h
      obtain ⟨hst, hfs⟩ := h
      have hF : P.fieldsOf T = fs := by simp [Program.fieldsOf, hT]
      have hT' : P.underlying T = some (.struct (P.fieldsOf T)) := by rw [hF]; exact hT
      have key : ∀ (fl : List Field) (t : Ty) (off : Nat), eqFs P (eqChk P n) fl t off = true → ∀ (x y : t.den), Rep E t (cx.drop off) x → Rep E t (cy.drop off) y →
          (Op.eqFields d cx.toArray cy.toArray fl).run P w = .ok (t.beq x y) w := by
        intro fl
        induction fl with
        | nil =>
          intro t off hc x y _ _
          cases t <;> first | (simp [eqFs] at hc; done) | rfl
        | cons f fl ih =>
          intro t off hc x y hx hy
          cases t <;> first | (simp [eqFs] at hc; done) | skip
          rename_i ta tb
          simp only [eqFs, Bool.and_eq_true, Bool.not_eq_true', beq_iff_eq, beq_eq_false_iff_ne] at hc
          obtain ⟨⟨⟨⟨⟨⟨hnm, hoff⟩, hz⟩, hsz⟩, hag⟩, hch⟩, hrest⟩ := hc
          simp only [Rep] at hx hy
          obtain ⟨xa, xb, ex, hxa, hxb⟩ := hx
          obtain ⟨ya, yb, ey, hya, hyb⟩ := hy
          have bx : ta.agg = false → ta.size = 1 := size_one_of
          have lx : xa.length = ta.size := hxa.size
          have ly : ya.length = ta.size := hya.size
          have split : ∀ (cs xa xb : List Value), cs.drop off = xa ++ xb → xa.length = ta.size → (cs.drop off).take ta.size = xa ∧ cs.drop (off + ta.size) = xb ∧ off + ta.size ≤ cs.length := by
            intro cs xa xb e l
            refine ⟨by rw [e]; exact List.take_left' l, by rw [← List.drop_drop, e]; exact List.drop_left' l, ?_⟩
            have := congrArg List.length e
            simp only [List.length_drop, List.length_append] at this
            omega
          obtain ⟨sx1, sx2, sx3⟩ := split cx xa xb ex lx
          obtain ⟨sy1, sy2, sy3⟩ := split cy ya yb ey ly
          obtain ⟨ux, h1, o1⟩ := run_part (w := w) hag hsz bx (cs := cx) (off := off) sx3
          obtain ⟨uy, h2, o2⟩ := run_part (w := w) hag hsz bx (cs := cy) (off := off) sy3
          rw [sx1] at o1
          rw [sy1] at o2
          have h3 := equalIn_sound E n f.type ta hch d (by omega) _ _ x.1 y.1 ux uy hxa hya o1 o2
          have h4 := ih tb (off + ta.size) hrest x.2 y.2 (by rw [sx2]; exact hxb) (by rw [sy2]; exact hyb)
          simp only [Op.eqFields, ne_eq, hnm, not_false_eq_true, if_true, Sem.run_bind, hoff, h1, h2, h3, Result.andThen_ok]
          show _ = Result.ok (ta.beq x.1 y.1 && tb.beq x.2 y.2) w
          rcases Bool.eq_false_or_eq_true (ta.beq x.1 y.1) with hb | hb
          · simp only [hb, Bool.not_true, Bool.false_eq_true, if_false, Bool.true_and]
            exact h4
          · simp [hb]
      have hag : t0.agg = true := by
        cases hl : fs.toList <;> rw [hl] at hfs <;> cases t0 <;> first | rfl | (simp [eqFs] at hfs; done)
      rw [hag] at hu hv
      have e1 : u = .agg cx.toArray := hu
      have e2 : v = .agg cy.toArray := hv
      subst e1 e2
      rw [run_equalIn_struct w d T _ _ hT' hst, hF]
      exact key fs.toList t0 0 hfs x y (by simpa using hx) (by simpa using hy)
    · cases h

end
end Go.Ab
/-
  Soundness of the operations, fourth part: tests of equality, conversions, places, slices.
-/
namespace Go.Ab

section
variable {P : Program} {C : Ctx} {g : Nat → Lab} {β : Id → Option Pl} {s : AS} {a : Act} {w : World} {o : Oper}

theorem one_of {E : Env} {v : AVal} {y c : Value} (h : VS E v y) (hc : v.celled = true) (ha : v.agg = false) (hV : ∀ cs, V E v cs → cs = [c]) : y = c := by
  have := h.single hc ha
  simpa using hV _ this

theorem nilp_of {E : Env} {y : Value} (h : VS E .nilp y) : y = .pointer none := one_of h rfl rfl fun cs hv => by simpa only [V] using hv
theorem nilf_of {E : Env} {y : Value} (h : VS E .nilf y) : y = .nilFunc := one_of h rfl rfl fun cs hv => by simpa only [V] using hv
theorem fn_of {E : Env} {f : FuncId} {c : AVal} {y : Value} (h : VS E (.fn f c) y) : ∃ vs, y = .func (.func f) #[] vs.toArray ∧ VC E c vs := by
  have h1 := h.single rfl rfl
  simp only [V] at h1
  obtain ⟨vs, e, hc⟩ := h1
  exact ⟨vs, by simpa using e, hc⟩

theorem equal_run {T : TypeId} {u v : Value} {b : Bool} (h : ∀ d, (Op.equalIn (d + 1) T u v).run P w = .ok b w) : (Op.equal T u v).run P w = .ok b w := h 9999

theorem eqOp_sound {T : TypeId} {x y : AVal} {u v : Value} {E : Env} (hx : VS E x u) (hy : VS E y v) {b : Bool} (he : (eqOp P T x y).eval = some b) :
    (Op.equal T u v).run P w = .ok b w ∧ u ≠ .nilIface ∧ (isAggV u = false ∨ (isAggV v = true ∧ P.eqGuardType P.depth T = false)) ∧
      (∀ op, binOp op T u v = (match op with | .eql => do pure (.bool (← Op.equal T u v)) | .neq => do pure (.bool (!(← Op.equal T u v))) | _ => binOp op T u v)) := by
  unfold eqOp at he
  split at he
  · rename_i t x' t' y'
    obtain ⟨y'', h1, h2⟩ := eval_bind.1 he
    obtain ⟨rfl, h1⟩ := castTy_some (eval_opt.1 h1)
    simp only at h1
    subst h1
    obtain ⟨h3, h4⟩ := eval_guard.1 h2
    obtain rfl := eval_ok.1 h4
    simp only [Bool.and_eq_true, Bool.or_eq_true, Bool.not_eq_true', decide_eq_true_eq] at h3
    obtain ⟨h3, h5⟩ := h3
    obtain ⟨cx, hVx, hOx⟩ := hx.celled rfl
    obtain ⟨cy, hVy, hOy⟩ := hy.celled rfl
    simp only [V] at hVx hVy
    have hr := equalIn_sound (w := w) E depth T t' h5 10000 (by decide) cx cy x' y' u v hVx hVy hOx hOy
    refine ⟨hr, ?_⟩
    rcases h3 with ⟨hag, hgt⟩ | rfl
    · have hOx' : OfCells t'.agg cx u := hOx
      have hOy' : OfCells t'.agg cy v := hOy
      rw [hag] at hOx' hOy'
      have e1 : u = .agg cx.toArray := hOx'
      have e2 : v = .agg cy.toArray := hOy'
      subst e1 e2
      exact ⟨by simp, .inr ⟨rfl, hgt⟩, fun op => by cases op <;> rfl⟩
    · simp only [Rep] at hVx hVy
      have e1 : cx = [u] := hOx
      have e2 : cy = [v] := hOy
      rw [hVx] at e1; rw [hVy] at e2
      simp only [List.cons.injEq, and_true] at e1 e2
      subst e1 e2
      exact ⟨by simp, .inl rfl, fun op => by cases op <;> rfl⟩
  · obtain ⟨h1, h2⟩ := eval_guard.1 he
    obtain rfl := eval_ok.1 h2
    rw [nils_of hx, nils_of hy]
    unfold eqOp.isSl at h1
    split at h1 <;> try (cases h1; done)
    rename_i e hT
    exact ⟨equal_run fun d => by simp [Op.equalIn, run_underlying hT], by simp, .inl rfl, fun op => by cases op <;> rfl⟩
  · obtain ⟨h1, h2⟩ := eval_guard.1 he
    obtain ⟨h3, h4⟩ := eval_chk.1 h2
    obtain rfl := eval_ok.1 h4
    obtain ⟨ad, cap, vs, rfl, _, hs, _⟩ := slice_of hx
    rw [nils_of hy]
    have hs := hs (by simpa using h3)
    obtain ⟨ad', rfl⟩ := Option.isSome_iff_exists.1 hs
    unfold eqOp.isSl at h1
    split at h1 <;> try (cases h1; done)
    rename_i e hT
    exact ⟨equal_run fun d => by simp [Op.equalIn, run_underlying hT], by simp, .inl rfl, fun op => by cases op <;> rfl⟩
  · obtain ⟨h1, h2⟩ := eval_guard.1 he
    obtain ⟨h3, h4⟩ := eval_chk.1 h2
    obtain rfl := eval_ok.1 h4
    obtain ⟨ad, cap, vs, rfl, _, hs, _⟩ := slice_of hy
    rw [nils_of hx]
    have hs := hs (by simpa using h3)
    obtain ⟨ad', rfl⟩ := Option.isSome_iff_exists.1 hs
    unfold eqOp.isSl at h1
    split at h1 <;> try (cases h1; done)
    rename_i e hT
    exact ⟨equal_run fun d => by simp [Op.equalIn, run_underlying hT], by simp, .inl rfl, fun op => by cases op <;> rfl⟩
  · obtain ⟨h1, h2⟩ := eval_guard.1 he
    obtain ⟨h3, h4⟩ := eval_chk.1 h2
    obtain rfl := eval_ok.1 h4
    obtain ⟨ad, cap, rfl, _, hs, _⟩ := sref_of hx
    rw [nils_of hy]
    have hs := hs (by simpa using h3)
    obtain ⟨ad', rfl⟩ := Option.isSome_iff_exists.1 hs
    unfold eqOp.isSl at h1
    split at h1 <;> try (cases h1; done)
    rename_i e hT
    exact ⟨equal_run fun d => by simp [Op.equalIn, run_underlying hT], by simp, .inl rfl, fun op => by cases op <;> rfl⟩
  · obtain ⟨h1, h2⟩ := eval_guard.1 he
    obtain ⟨h3, h4⟩ := eval_chk.1 h2
    obtain rfl := eval_ok.1 h4
    obtain ⟨ad, cap, rfl, _, hs, _⟩ := sref_of hy
    rw [nils_of hx]
    have hs := hs (by simpa using h3)
    obtain ⟨ad', rfl⟩ := Option.isSome_iff_exists.1 hs
    unfold eqOp.isSl at h1
    split at h1 <;> try (cases h1; done)
    rename_i e hT
    exact ⟨equal_run fun d => by simp [Op.equalIn, run_underlying hT], by simp, .inl rfl, fun op => by cases op <;> rfl⟩
  · obtain ⟨h1, h2⟩ := eval_guard.1 he
    obtain rfl := eval_ok.1 h2
    rw [nilp_of hx, nilp_of hy]
    unfold eqOp.isPt at h1
    split at h1 <;> try (cases h1; done)
    rename_i e hT
    exact ⟨equal_run fun d => by simp [Op.equalIn, run_underlying hT], by simp, .inl rfl, fun op => by cases op <;> rfl⟩
  · obtain ⟨h1, h2⟩ := eval_guard.1 he
    obtain rfl := eval_ok.1 h2
    obtain ⟨ad, rfl, _⟩ := ptr_of hx
    rw [nilp_of hy]
    unfold eqOp.isPt at h1
    split at h1 <;> try (cases h1; done)
    rename_i e hT
    exact ⟨equal_run fun d => by simp [Op.equalIn, run_underlying hT], by simp, .inl rfl, fun op => by cases op <;> rfl⟩
  · obtain ⟨h1, h2⟩ := eval_guard.1 he
    obtain rfl := eval_ok.1 h2
    obtain ⟨ad, rfl, _⟩ := ptr_of hy
    rw [nilp_of hx]
    unfold eqOp.isPt at h1
    split at h1 <;> try (cases h1; done)
    rename_i e hT
    exact ⟨equal_run fun d => by simp [Op.equalIn, run_underlying hT], by simp, .inl rfl, fun op => by cases op <;> rfl⟩
  · obtain ⟨h1, h2⟩ := eval_guard.1 he
    obtain rfl := eval_ok.1 h2
    rw [nilf_of hx, nilf_of hy]
    unfold eqOp.isFn at h1
    split at h1 <;> try (cases h1; done)
    rename_i hT
    exact ⟨equal_run fun d => by simp [Op.equalIn, run_underlying hT], by simp, .inl rfl, fun op => by cases op <;> rfl⟩
  · obtain ⟨h1, h2⟩ := eval_guard.1 he
    obtain rfl := eval_ok.1 h2
    obtain ⟨vs, rfl, _⟩ := fn_of hx
    rw [nilf_of hy]
    unfold eqOp.isFn at h1
    split at h1 <;> try (cases h1; done)
    rename_i hT
    exact ⟨equal_run fun d => by simp [Op.equalIn, run_underlying hT], by simp, .inl rfl, fun op => by cases op <;> rfl⟩
  · obtain ⟨h1, h2⟩ := eval_guard.1 he
    obtain rfl := eval_ok.1 h2
    obtain ⟨vs, rfl, _⟩ := fn_of hy
    rw [nilf_of hx]
    unfold eqOp.isFn at h1
    split at h1 <;> try (cases h1; done)
    rename_i hT
    exact ⟨equal_run fun d => by simp [Op.equalIn, run_underlying hT], by simp, .inl rfl, fun op => by cases op <;> rfl⟩
  · simp only [eval_fail] at he

theorem eqGuard_agg {op : BinOp} {T : TypeId} {x y : Operand} {u v : Value} (hu : isAggV u = true) (hv : isAggV v = true) (hm : P.eqGuardType P.depth T = false) : (eqGuard op T x y u v).run P w = .ok () w := by
  cases u <;> first | (simp [isAggV] at hu; done) | skip
  cases v <;> first | (simp [isAggV] at hv; done) | skip
  exact run_eqGuard_agg w op T x y _ _ hm

theorem binOp_runs (h : Inv C g β s a w) {op : BinOp} {T U : TypeId} {x y : Operand} (ho : o.op = .binOp op T x y U) {v : AVal} (he : (binA P T op (s.ev x) (s.ev y)).eval = some v) : Runs P o a w (Sts C (s.put o.dst v)) := by
  have hx := h.ev x
  have hy := h.ev y
  have fin : ∀ z, (binOp op T (a.eval x) (a.eval y)).run P w = .ok z w → (eqGuard op T x y (a.eval x) (a.eval y)).run P w = .ok () w → VS (s.env w g β) v z → Runs P o a w (Sts C (s.put o.dst v)) := by
    intro z h1 h2 h3
    refine h.value h3 ?_
    simp [execOp, ho, h1, h2]
  unfold binA at he
  split at he
  · rename_i k n k' m hn hm
    rw [hn] at hx; rw [hm] at hy
    have e1 := int_of hx
    have e2 := int_of hy
    obtain ⟨z, h1, h2⟩ := intOp_sound (P := P) (w := w) he T (s.env w g β)
    exact fin z (by rw [e1, e2]; exact h1) (by rw [e1, e2]; exact eqGuard_plain (by simp) rfl) h2
  · rename_i n m hn hm
    rw [hn] at hx; rw [hm] at hy
    have e1 := str_of hx
    have e2 := str_of hy
    obtain ⟨z, h1, h2⟩ := strOp_sound (P := P) (w := w) he T (s.env w g β)
    exact fin z (by rw [e1, e2]; exact h1) (by rw [e1, e2]; exact eqGuard_plain (by simp) rfl) h2
  · have grd : (isAggV (a.eval x) = false ∨ (isAggV (a.eval y) = true ∧ P.eqGuardType P.depth T = false)) → a.eval x ≠ .nilIface → (eqGuard op T x y (a.eval x) (a.eval y)).run P w = .ok () w := by
      intro hh hne
      rcases hh with hh | ⟨hh, hm⟩
      · exact eqGuard_plain hne hh
      · rcases Bool.eq_false_or_eq_true (isAggV (a.eval x)) with hx | hx
        · exact eqGuard_agg hx hh hm
        · exact eqGuard_plain hne hx
    split at he
    · obtain ⟨b, h1, h2⟩ := eval_bind.1 he
      obtain rfl := eval_ok.1 h2
      obtain ⟨q1, q2, q3, q4⟩ := eqOp_sound (w := w) hx hy h1
      refine fin (.bool b) ?_ (grd q3 q2) (VS_bool b)
      rw [q4 .eql]
      simp [q1]
    · obtain ⟨b, h1, h2⟩ := eval_bind.1 he
      obtain rfl := eval_ok.1 h2
      obtain ⟨q1, q2, q3, q4⟩ := eqOp_sound (w := w) hx hy h1
      refine fin (.bool (!b)) ?_ (grd q3 q2) (VS_bool (!b))
      rw [q4 .neq]
      simp [q1]
    · simp only [eval_fail] at he

theorem unOp_runs (h : Inv C g β s a w) {op : UnOp} {T : TypeId} {x : Operand} (ho : o.op = .unOp op T x) {v : AVal} (he : (unA op (s.ev x)).eval = some v) : Runs P o a w (Sts C (s.put o.dst v)) := by
  have hx := h.ev x
  unfold unA at he
  split at he
  · rename_i b hb
    rw [hb] at hx
    obtain rfl := eval_ok.1 he
    exact h.value (VS_bool _) (by simp [execOp, ho, bool_of hx, Op.unary])
  · rename_i k n hb
    rw [hb] at hx
    obtain rfl := eval_ok.1 he
    exact h.value (VS_int _ _) (by simp [execOp, ho, int_of hx, Op.unary, Op.intArith])
  · rename_i k n hb
    rw [hb] at hx
    obtain rfl := eval_ok.1 he
    refine h.value (VS_int _ _) ?_
    simp only [execOp, ho, int_of hx, Op.unary, Op.intBits]
    simp [bitop]
  · simp only [eval_fail] at he

end
end Go.Ab

/-
  Soundness of the operations, fifth part: slices.
-/
namespace Go.Ab

section
variable {P : Program} {C : Ctx} {g : Nat → Lab} {β : Id → Option Pl} {s : AS} {a : Act} {w : World} {o : Oper}

/-! ### Slices' bounds -/

theorem asInt_of {E : Env} {v : AVal} {y : Value} (h : VS E v y) {n : Int} (he : (asInt v).eval = some n) : ∃ k, y = .int k n := by
  unfold asInt at he
  split at he
  · rename_i k m
    obtain rfl := eval_ok.1 he
    exact ⟨k, int_of h⟩
  · simp only [eval_fail] at he

theorem run_bound {k : IntKind} {i : Int} {y : Nat} (code : BoundsCode) (h : 0 ≤ i ∧ i ≤ (y : Int)) : (Instr.sliceBound (.int k i) y code).run P w = .ok i.toNat w :=
  run_sliceBound w k i y code h.1 h.2

/-- Bounds within the length. -/
theorem bounds_sound (h : Inv C g β s a w) {n cap : Nat} (hn : n ≤ cap) {lo hi : Option Operand} {r : Nat × Nat} (he : (bounds s n lo hi).eval = some r) (isS : Bool) :
    (Instr.sliceBounds isS n cap (lo.map a.eval) (hi.map a.eval) none).run P w = .ok (r.1, r.2, cap) w ∧ r.1 ≤ r.2 ∧ r.2 ≤ n := by
  unfold bounds at he
  obtain ⟨hh, h1, h2⟩ := eval_bind.1 he
  obtain ⟨ll, h3, h4⟩ := eval_bind.1 h2
  obtain rfl := eval_ok.1 h4
  have hi1 : hh ≤ n ∧ ∀ y, hi.map a.eval = some y → ∃ k i, y = .int k i ∧ 0 ≤ i ∧ i ≤ (n : Int) ∧ hh = i.toNat := by
    cases hi with
    | none =>
      simp only at h1
      obtain rfl := eval_ok.1 h1
      exact ⟨Nat.le_refl _, fun y hy => by cases hy⟩
    | some x =>
      simp only at h1
      obtain ⟨i, q1, q2⟩ := eval_bind.1 h1
      obtain ⟨q3, q4⟩ := eval_chk.1 q2
      obtain rfl := eval_ok.1 q4
      simp only [decide_eq_true_eq] at q3
      obtain ⟨k, hk⟩ := asInt_of (h.ev x) q1
      refine ⟨by omega, fun y hy => ?_⟩
      simp only [Option.map_some, Option.some.injEq] at hy
      exact ⟨k, i, by rw [← hy]; exact hk, q3.1, q3.2, rfl⟩
  have hi0 : hi.map a.eval = none → hh = n := by
    intro hy
    cases hi with
    | none => simp only at h1; exact (eval_ok.1 h1).symm
    | some x => cases hy
  have lo1 : ll ≤ hh ∧ ∀ y, lo.map a.eval = some y → ∃ k i, y = .int k i ∧ 0 ≤ i ∧ i ≤ (hh : Int) ∧ ll = i.toNat := by
    cases lo with
    | none =>
      simp only at h3
      obtain rfl := eval_ok.1 h3
      exact ⟨Nat.zero_le _, fun y hy => by cases hy⟩
    | some x =>
      simp only at h3
      obtain ⟨i, q1, q2⟩ := eval_bind.1 h3
      obtain ⟨q3, q4⟩ := eval_chk.1 q2
      obtain rfl := eval_ok.1 q4
      simp only [decide_eq_true_eq] at q3
      obtain ⟨k, hk⟩ := asInt_of (h.ev x) q1
      refine ⟨by omega, fun y hy => ?_⟩
      simp only [Option.map_some, Option.some.injEq] at hy
      exact ⟨k, i, by rw [← hy]; exact hk, q3.1, q3.2, rfl⟩
  have lo0 : lo.map a.eval = none → ll = 0 := by
    intro hy
    cases lo with
    | none => simp only at h3; exact (eval_ok.1 h3).symm
    | some x => cases hy
  refine ⟨?_, lo1.1, hi1.1⟩
  unfold Instr.sliceBounds
  cases hhi : hi.map a.eval with
  | none =>
    obtain rfl := hi0 hhi
    cases hlo : lo.map a.eval with
    | none =>
      obtain rfl := lo0 hlo
      rfl
    | some y =>
      obtain ⟨k, i, rfl, q1, q2, rfl⟩ := lo1.2 y hlo
      simp only [Sem.run_bind, Sem.run_pure, Result.andThen_ok, run_bound _ ⟨q1, q2⟩]
  | some z =>
    obtain ⟨k', i', rfl, p1, p2, rfl⟩ := hi1.2 z hhi
    have hb : ∀ code, (Instr.sliceBound (.int k' i') cap code).run P w = .ok i'.toNat w := fun code => run_bound code ⟨p1, by omega⟩
    cases hlo : lo.map a.eval with
    | none =>
      obtain rfl := lo0 hlo
      simp only [Sem.run_bind, Sem.run_pure, Result.andThen_ok, hb]
    | some y =>
      obtain ⟨k, i, rfl, q1, q2, rfl⟩ := lo1.2 y hlo
      simp only [Sem.run_bind, Sem.run_pure, Result.andThen_ok, hb, run_bound _ ⟨q1, q2⟩]

theorem elemSize_slice {T : TypeId} {z : Nat} (h1 : elemSize P T = some z) (h2 : isArr P T = none) : ∃ e, P.underlying T = some (.slice e) ∧ P.cellsOf e = z ∧ 0 < z := by
  unfold elemSize at h1
  unfold isArr at h2
  split at h1
  · rename_i n e hT; rw [hT] at h2; cases h2
  · rename_i e hT
    cases hc : P.cellsOf e with
    | zero => rw [hc] at h1; cases h1
    | succ k =>
      rw [hc] at h1
      simp only [Option.some.injEq] at h1
      exact ⟨e, hT, by omega, by omega⟩
  · cases h1

theorem elemSize_arr {T : TypeId} {z n : Nat} (h1 : elemSize P T = some z) (h2 : isArr P T = some n) : ∃ e, P.underlying T = some (.array n e) ∧ P.cellsOf e = z ∧ 0 < z := by
  unfold elemSize at h1
  unfold isArr at h2
  split at h1
  · rename_i n e hT
    rw [hT] at h2
    simp only [Option.some.injEq] at h2
    subst h2
    cases hc : P.cellsOf e with
    | zero => rw [hc] at h1; cases h1
    | succ k =>
      rw [hc] at h1
      simp only [Option.some.injEq] at h1
      exact ⟨e, hT, by omega, by omega⟩
  · rename_i e hT; rw [hT] at h2; cases h2
  · cases h1

/-- sizeOf runs wherever the type is one of the program's. -/
theorem run_sizeOf' {e : TypeId} {z : Nat} (h : P.cellsOf e = z) (hz : 0 < z) (w : World) : (sizeOf e).run P w = .ok z w := by
  unfold Program.cellsOf at h
  cases hi : P.info? e with
  | none => rw [hi] at h; simp at h; omega
  | some i => rw [hi] at h; rw [run_sizeOf hi]; simpa using h

theorem slice_runs (h : Inv C g β s a w) {T : TypeId} {x : Operand} {lo hi : Option Operand} (ho : o.op = .slice T x lo hi none) {v : AVal} (he : (sliceA P s T (s.ev x) lo hi).eval = some v) : Runs P o a w (Sts C (s.put o.dst v)) := by
  have hx := h.ev x
  have fin : ∀ z, (Instr.sliceAt T (a.eval x) (lo.map a.eval) (hi.map a.eval) none).run P w = .ok z w → VS (s.env w g β) v z → Runs P o a w (Sts C (s.put o.dst v)) := by
    intro z h1 h2
    exact h.value h2 (exec_value (f := Instr.sliceAt T (a.eval x) (lo.map a.eval) (hi.map a.eval) none) (by simp only [execOp, ho, Option.map_none]) h1)
  have sl : ∀ (e : TypeId) (z : Nat) (ad : Option Addr) (len cap : Nat) (b : Nat × Nat), P.underlying T = some (.slice e) → P.cellsOf e = z → 0 < z → a.eval x = .slice ad len cap → len ≤ cap → (bounds s len lo hi).eval = some b →
      (Instr.sliceAt T (a.eval x) (lo.map a.eval) (hi.map a.eval) none).run P w = .ok (.slice (if cap = b.1 then ad else ad.map (·.add (b.1 * z))) (b.2 - b.1) (cap - b.1)) w ∧ b.1 ≤ b.2 ∧ b.2 ≤ len := by
    intro e z ad len cap b hT hz hpos hy hlc hb
    obtain ⟨h1, h2, h3⟩ := bounds_sound (P := P) h hlc hb true
    refine ⟨?_, h2, h3⟩
    rw [hy]
    simp [Instr.sliceAt, Instr.slice, run_underlying hT, h1, run_sizeOf' hz hpos]
  have ar : ∀ (e : TypeId) (z n : Nat) (ad : Addr) (b : Nat × Nat), P.underlying T = some (.array n e) → P.cellsOf e = z → 0 < z → a.eval x = .pointer (some ad) → (bounds s n lo hi).eval = some b →
      (Instr.sliceAt T (a.eval x) (lo.map a.eval) (hi.map a.eval) none).run P w = .ok (.slice (some (if n = b.1 then ad else ad.add (b.1 * z))) (b.2 - b.1) (n - b.1)) w ∧ b.1 ≤ b.2 ∧ b.2 ≤ n := by
    intro e z n ad b hT hz hpos hy hb
    obtain ⟨h1, h2, h3⟩ := bounds_sound (P := P) h (Nat.le_refl n) hb false
    refine ⟨?_, h2, h3⟩
    rw [hy]
    simp [Instr.sliceAt, Instr.sureAddr, run_underlying hT, h1, run_sizeOf' hz hpos]
  have cutR : ∀ (t : Ty) (z : Nat) (ad ad' : Option Addr) (len' cap' : Nat) (vs : List Value) (l : List t.den) (b : Nat × Nat), z = t.size → RowAt (s.env w g β) ad vs → Chunks (Rep (s.env w g β) t) vs l → b.1 ≤ b.2 → b.2 ≤ l.length →
      (∀ bb off, ad = some ⟨bb, off, none⟩ → b.1 < b.2 → ad' = some ⟨bb, off + b.1 * z, none⟩) → (b.1 < b.2 → ad'.isSome = true) → len' = b.2 - b.1 → len' ≤ cap' → VS (s.env w g β) (.d (.slice t) (cut l b.1 (b.2 - b.1))) (.slice ad' len' cap') := by
    intro t z ad ad' len' cap' vs l b hz hr hc h1 h2 hadd hsome hlen hle
    subst hz hlen
    have hcl : (cut l b.1 (b.2 - b.1)).length = b.2 - b.1 := cut_length (by omega)
    refine ⟨_, ?_, rfl⟩
    simp only [V, Rep]
    refine ⟨ad', cap', (vs.drop (b.1 * t.size)).take ((b.2 - b.1) * t.size), by rw [hcl], by omega, by rw [hcl]; intro hp; exact hsome (by omega), ?_, chunks_cut hc b.1 _⟩
    intro i v hi
    rw [List.getElem?_take] at hi
    split at hi
    · rename_i hil
      rw [List.getElem?_drop] at hi
      obtain ⟨bb, off, e, hh⟩ := hr _ v hi
      have hlt : b.1 < b.2 := by
        rcases Nat.lt_or_ge b.1 b.2 with h' | h'
        · exact h'
        · rw [Nat.sub_eq_zero_of_le h', Nat.zero_mul] at hil; omega
      exact ⟨bb, _, hadd bb off e hlt, by rw [Nat.add_assoc]; exact hh⟩
    · cases hi
  unfold sliceA at he
  split at he
  · rename_i st hst
    rw [hst] at hx
    have e1 := str_of hx
    obtain ⟨h1, h2⟩ := eval_guard.1 he
    obtain ⟨b, h3, h4⟩ := eval_bind.1 h2
    obtain rfl := eval_ok.1 h4
    split at h1 <;> try (cases h1; done)
    rename_i hT
    obtain ⟨q1, q2, q3⟩ := bounds_sound (P := P) h (Nat.le_refl _) h3 false
    refine fin (.string (st.extract b.1 b.2)) ?_ (VS_str _)
    rw [e1]
    simp [Instr.sliceAt, Instr.slice, run_underlying hT, q1]
  · rename_i t l hl
    rw [hl] at hx
    obtain ⟨ad, cap, vs, hy, hlc, hsome, hrow, hch⟩ := slice_of hx
    obtain ⟨h1, h2⟩ := eval_guard.1 he
    obtain ⟨b, h3, h4⟩ := eval_bind.1 h2
    obtain rfl := eval_ok.1 h4
    split at h1 <;> try (cases h1; done)
    rename_i z hz1 hz2
    obtain ⟨e, hT, hz, hpos⟩ := elemSize_slice hz1 hz2
    have hzt : z = t.size := by simpa using h1
    obtain ⟨q1, q2, q3⟩ := sl e z ad _ cap b hT hz hpos hy hlc h3
    refine fin _ q1 (cutR t z ad _ _ _ vs l b hzt hrow hch q2 q3 ?_ ?_ rfl (by omega))
    · intro bb off e1 hlt
      rw [if_neg (by omega), e1]
      simp [Addr.add_lit]
    · intro hlt
      rw [if_neg (by omega)]
      have := hsome (by omega)
      cases ad <;> simp_all
  · rename_i hl
    rw [hl] at hx
    have hy := nils_of hx
    obtain ⟨h1, h2⟩ := eval_guard.1 he
    obtain ⟨b, h3, h4⟩ := eval_bind.1 h2
    obtain rfl := eval_ok.1 h4
    split at h1 <;> try (cases h1; done)
    rename_i z hz1 hz2
    obtain ⟨e, hT, hz, hpos⟩ := elemSize_slice hz1 hz2
    obtain ⟨q1, q2, q3⟩ := sl e z none 0 0 b hT hz hpos hy (Nat.le_refl _) h3
    have hb1 : b.1 = 0 := by omega
    have hb2 : b.2 = 0 := by omega
    refine fin _ q1 ?_
    rw [hb1, hb2]
    exact ⟨_, by simp [V], rfl⟩
  · rename_i id ver p c i len hl
    rw [hl] at hx
    obtain ⟨ad, cap, hy, hlc, hsome, hbnd, hcur⟩ := sref_of hx
    obtain ⟨r, hr1, he⟩ := eval_bind.1 he
    obtain ⟨h1, h2⟩ := eval_guard.1 he
    obtain ⟨b, h3, h4⟩ := eval_bind.1 h2
    obtain rfl := eval_ok.1 h4
    split at h1 <;> try (cases h1; done)
    rename_i z hz1 hz2
    obtain ⟨e, hT, hz, hpos⟩ := elemSize_slice hz1 hz2
    have hzt : z = r.2.1.size := by simpa using h1
    obtain ⟨q1, q2, q3⟩ := sl e z ad _ cap b hT hz hpos hy hlc h3
    refine fin _ q1 ⟨_, ?_, rfl⟩
    simp only [V]
    refine ⟨_, _, rfl, by omega, ?_, hbnd, fun hc => ?_⟩
    · intro hlt
      rw [if_neg (by omega)]
      have := hsome (by omega)
      cases ad <;> simp_all
    · have hcur := hcur hc
      cases hp : β id with
      | none =>
        have hp' : (s.env w g β).β id = none := hp
        rw [hp'] at hcur ⊢
        simp only at hcur ⊢
        obtain ⟨rfl, rfl, rfl⟩ := hcur
        refine ⟨by simp, by omega, by omega⟩
      | some pl =>
        have hp' : (s.env w g β).β id = some pl := hp
        rw [hp'] at hcur ⊢
        simp only at hcur ⊢
        refine ⟨fun hh => ?_, fun hpn hi0 => ?_⟩
        · by_cases hcb : cap = b.1
          · rw [if_pos hcb]
            have hb0 : b.1 = 0 := by omega
            rw [hb0, Nat.zero_mul, Nat.add_zero]
            exact hcur.1 (.inr (by omega))
          · rw [if_neg hcb, hcur.1 (by omega), ← hzt]
            simp [Addr.add_lit]
        · have := hcur.2 hpn (by omega)
          omega
  · rename_i id ver p n hl
    rw [hl] at hx
    obtain ⟨ad, hy, hbnd, hcur⟩ := ptr_of hx
    obtain ⟨r, hr1, he⟩ := eval_bind.1 he
    obtain ⟨h1, h2⟩ := eval_guard.1 he
    obtain ⟨h5, h6⟩ := eval_chk.1 h2
    obtain ⟨b, h3, h4⟩ := eval_bind.1 h6
    obtain rfl := eval_ok.1 h4
    split at h1 <;> try (cases h1; done)
    rename_i z m hz1 hz2
    obtain ⟨e, hT, hz, hpos⟩ := elemSize_arr hz1 hz2
    have hzt : z = r.2.1.size := by simpa using h1
    rw [hz2, Option.getD_some] at h3
    obtain ⟨q1, q2, q3⟩ := ar e z m ad b hT hz hpos hy h3
    obtain ⟨fr, c0, hent, _⟩ := row_sound rfl h.objs hr1
    obtain ⟨pl, hp, had⟩ := hcur ⟨fr, c0, hent⟩
    refine fin _ q1 ⟨_, ?_, rfl⟩
    simp only [V]
    refine ⟨_, _, rfl, by omega, fun _ => rfl, hbnd, fun _ => ?_⟩
    rw [hp]
    simp only
    refine ⟨fun hh => ?_, fun hpn => by simp at hpn⟩
    rw [had]
    by_cases hcb : m = b.1
    · have hb0 : b.1 = 0 := by omega
      rw [if_pos hcb, hb0, Nat.zero_mul, Nat.add_zero]
    · rw [if_neg hcb, ← hzt, Addr.add_lit]
  · rename_i n t l hl
    rw [hl] at hx
    obtain ⟨bb, off, vs, hy, hrow, hR⟩ := rptr_of hx
    obtain ⟨h1, h2⟩ := eval_guard.1 he
    obtain ⟨b, h3, h4⟩ := eval_bind.1 h2
    obtain rfl := eval_ok.1 h4
    split at h1 <;> try (cases h1; done)
    rename_i z m hz1 hz2
    obtain ⟨e, hT, hz, hpos⟩ := elemSize_arr hz1 hz2
    simp only [Bool.and_eq_true, beq_iff_eq] at h1
    obtain ⟨hzt, rfl⟩ := h1
    obtain ⟨q1, q2, q3⟩ := ar e z m _ b hT hz hpos hy h3
    simp only [Rep] at hR
    obtain ⟨hlen, hch⟩ := hR
    refine fin _ q1 (cutR t z (some ⟨bb, off, none⟩) _ _ _ vs l b hzt hrow hch q2 (by omega) ?_ (fun _ => rfl) rfl (by omega))
    intro bb' off' e1 hlt
    simp only [Option.some.injEq, Addr.mk.injEq, and_true] at e1
    obtain ⟨rfl, rfl⟩ := e1
    rw [if_neg (by omega), Addr.add_lit]
  · simp only [eval_fail] at he

end
end Go.Ab

/-
  Soundness of the operations, sixth part: places and parts; functions as values; lengths; conversions.
-/
namespace Go.Ab

section
variable {P : Program} {C : Ctx} {g : Nat → Lab} {β : Id → Option Pl} {s : AS} {a : Act} {w : World} {o : Oper}

theorem indexAddr_runs (h : Inv C g β s a w) {T : TypeId} {x y : Operand} (ho : o.op = .indexAddr T x y) {i : Int} (hi : (asInt (s.ev y)).eval = some i) {v : AVal} (he : (indexAddrA P s T (s.ev x) i).eval = some v) : Runs P o a w (Sts C (s.put o.dst v)) := by
  have hx := h.ev x
  obtain ⟨k, hy⟩ := asInt_of (h.ev y) hi
  have fin : ∀ z, (Instr.indexAt T (a.eval x) (a.eval y)).run P w = .ok z w → VS (s.env w g β) v z → Runs P o a w (Sts C (s.put o.dst v)) := by
    intro z h1 h2
    exact h.value h2 (exec_value (f := Instr.indexAt T (a.eval x) (a.eval y)) (by simp only [execOp, ho]) h1)
  have sl : ∀ (e : TypeId) (z : Nat) (ad : Addr) (len cap : Nat), P.underlying T = some (.slice e) → P.cellsOf e = z → 0 < z → a.eval x = .slice (some ad) len cap → 0 ≤ i ∧ i < (len : Int) →
      (Instr.indexAt T (a.eval x) (a.eval y)).run P w = .ok (.pointer (some (ad.add (i.toNat * z)))) w := by
    intro e z ad len cap hT hz hpos hv hb
    rw [hv, hy]
    simp [Instr.indexAt, asIntOf, run_underlying hT, hb, run_sizeOf' hz hpos]
  have ar : ∀ (e : TypeId) (z n : Nat) (ad : Addr), P.underlying T = some (.array n e) → P.cellsOf e = z → 0 < z → a.eval x = .pointer (some ad) → 0 ≤ i ∧ i < (n : Int) →
      (Instr.indexAt T (a.eval x) (a.eval y)).run P w = .ok (.pointer (some (ad.add (i.toNat * z)))) w := by
    intro e z n ad hT hz hpos hv hb
    rw [hv, hy]
    simp [Instr.indexAt, Instr.sureAddr, asIntOf, run_underlying hT, hb, run_sizeOf' hz hpos]
  have elt : ∀ (t : Ty) (z : Nat) (bb off : Nat) (vs : List Value) (l : List t.den), z = t.size → RowAt (s.env w g β) (some ⟨bb, off, none⟩) vs → Chunks (Rep (s.env w g β) t) vs l → 0 ≤ i ∧ i < (l.length : Int) →
      VS (s.env w g β) (.rptr t (nth t l i.toNat)) (.pointer (some ⟨bb, off + i.toNat * z, none⟩)) := by
    intro t z bb off vs l hz hr hc hb
    subst hz
    have hlt : i.toNat < l.length := by omega
    rw [nth_eq hlt]
    obtain ⟨hp, _⟩ := row_part hc hlt
    refine ⟨_, ?_, rfl⟩
    simp only [V]
    refine ⟨_, _, _, rfl, fun j v hj => ?_, hp⟩
    rw [List.getElem?_take] at hj
    split at hj
    · rw [List.getElem?_drop] at hj
      obtain ⟨b', o', e, hh⟩ := hr _ v hj
      simp only [Option.some.injEq, Addr.mk.injEq, and_true] at e
      obtain ⟨rfl, rfl⟩ := e
      exact ⟨_, _, rfl, by rw [Nat.add_assoc]; exact hh⟩
    · cases hj
  unfold indexAddrA at he
  split at he
  · rename_i t l hl
    rw [hl] at hx
    obtain ⟨ad, cap, vs, hv, hlc, hsome, hrow, hch⟩ := slice_of hx
    obtain ⟨h1, h2⟩ := eval_guard.1 he
    obtain ⟨h3, h4⟩ := eval_chk.1 h2
    obtain rfl := eval_ok.1 h4
    simp only [decide_eq_true_eq] at h3
    split at h1 <;> try (cases h1; done)
    rename_i z hz1 hz2
    obtain ⟨e, hT, hz, hpos⟩ := elemSize_slice hz1 hz2
    have hzt : z = t.size := by simpa using h1
    have hlen := Chunks.length (fun c x hx => Rep.size hx) hch
    have hlt : i.toNat < l.length := by omega
    have h0 : 0 < vs.length := by rw [hlen]; exact Nat.mul_pos (by omega) (by omega)
    obtain ⟨bb, off, e1, _⟩ := hrow 0 vs[0] (by simp [h0])
    subst e1
    have := sl e z _ _ cap hT hz hpos hv h3
    rw [Addr.add_lit] at this
    exact fin _ this (elt t z bb off vs l hzt hrow hch h3)
  · rename_i n t l hl
    rw [hl] at hx
    obtain ⟨bb, off, vs, hv, hrow, hR⟩ := rptr_of hx
    obtain ⟨h1, h2⟩ := eval_guard.1 he
    obtain ⟨h3, h4⟩ := eval_chk.1 h2
    obtain rfl := eval_ok.1 h4
    simp only [decide_eq_true_eq] at h3
    split at h1 <;> try (cases h1; done)
    rename_i z m hz1 hz2
    obtain ⟨e, hT, hz, hpos⟩ := elemSize_arr hz1 hz2
    simp only [Bool.and_eq_true, beq_iff_eq] at h1
    obtain ⟨hzt, rfl⟩ := h1
    simp only [Rep] at hR
    have := ar e z m _ hT hz hpos hv h3
    rw [Addr.add_lit] at this
    exact fin _ this (elt t z bb off vs l hzt hrow hR.2 (by rw [hR.1]; exact h3))
  · rename_i id ver p c j len hl
    rw [hl] at hx
    obtain ⟨ad, cap, hv, hlc, hsome, hbnd, hcur⟩ := sref_of hx
    obtain ⟨r, hr1, he⟩ := eval_bind.1 he
    obtain ⟨h1, h2⟩ := eval_guard.1 he
    obtain ⟨h3, h4⟩ := eval_chk.1 h2
    obtain rfl := eval_ok.1 h4
    simp only [decide_eq_true_eq] at h3
    split at h1 <;> try (cases h1; done)
    rename_i z hz1 hz2
    obtain ⟨e, hT, hz, hpos⟩ := elemSize_slice hz1 hz2
    have hzt : z = r.2.1.size := by simpa using h1
    have hs := hsome (by omega)
    obtain ⟨ad', rfl⟩ := Option.isSome_iff_exists.1 hs
    refine fin _ (sl e z ad' len cap hT hz hpos hv h3) ⟨_, ?_, rfl⟩
    simp only [V]
    refine ⟨_, rfl, hbnd, fun hc => ?_⟩
    have hcur := hcur hc
    cases hp : β id with
    | none =>
      have hp' : (s.env w g β).β id = none := hp
      rw [hp'] at hcur
      exact absurd hcur.1 (by simp)
    | some pl =>
      have hp' : (s.env w g β).β id = some pl := hp
      rw [hp'] at hcur
      have e1 := hcur.1 (.inl (by omega))
      simp only [Option.some.injEq] at e1
      exact ⟨pl, hp, by rw [e1, Addr.add_lit, hzt]⟩
  · rename_i id ver p n hl
    rw [hl] at hx
    obtain ⟨ad, hv, hbnd, hcur⟩ := ptr_of hx
    obtain ⟨h1, h2⟩ := eval_guard.1 he
    obtain ⟨h3, h4⟩ := eval_chk.1 h2
    obtain rfl := eval_ok.1 h4
    simp only [decide_eq_true_eq] at h3
    split at h1 <;> try (cases h1; done)
    rename_i z m hz1 hz2
    obtain ⟨e, hT, hz, hpos⟩ := elemSize_arr hz1 hz2
    rw [hz2, Option.getD_some] at h3
    refine fin _ (ar e z m ad hT hz hpos hv h3) ⟨_, ?_, rfl⟩
    simp only [V]
    refine ⟨_, rfl, hbnd, fun hc => ?_⟩
    obtain ⟨pl, hp, had⟩ := hcur hc
    exact ⟨pl, hp, by rw [had, Addr.add_lit, hz1, Option.getD_some]⟩
  · simp only [eval_fail] at he

theorem fieldInfo_sound {T : TypeId} {f off : Nat} {ft : TypeId} (h : fieldInfo P T f = some (off, ft)) : ∃ fs fd, P.underlying T = some (.struct fs) ∧ fs[f]? = some fd ∧ fd.offset = off ∧ fd.type = ft := by
  unfold fieldInfo at h
  split at h
  · rename_i fs hT
    split at h
    · rename_i fd hf
      simp only [Option.some.injEq, Prod.mk.injEq] at h
      exact ⟨fs, fd, hT, hf, h.1, h.2⟩
    · cases h
  · cases h

theorem partOf_sound {E : Env} : ∀ (x : AVal) (f off : Nat) (v : AVal) (cs : List Value), V E x cs → partOf x f = some (off, v) → V E v ((cs.drop off).take v.size) ∧ off + v.size ≤ cs.length := by
  intro x f
  induction f generalizing x with
  | zero =>
    intro off v cs hx h
    cases x with
    | d t y =>
      cases t <;> simp only [partOf, reduceCtorEq] at h
      rename_i ta tb
      simp only [Option.some.injEq, Prod.mk.injEq] at h
      obtain ⟨rfl, rfl⟩ := h
      simp only [V, Rep] at hx ⊢
      obtain ⟨ca, cb, rfl, ha, hb⟩ := hx
      have := ha.size
      simp only [AVal.size, List.drop_zero, List.length_append, Nat.zero_add]
      rw [List.take_left' this]
      exact ⟨ha, by omega⟩
    | pr b c =>
      simp only [partOf, Option.some.injEq, Prod.mk.injEq] at h
      obtain ⟨rfl, rfl⟩ := h
      simp only [V] at hx
      obtain ⟨ca, cb, rfl, ha, hb⟩ := hx
      have := ha.size
      simp only [List.drop_zero, List.length_append, Nat.zero_add]
      rw [List.take_left' this]
      exact ⟨ha, by omega⟩
    | _ => simp only [partOf, reduceCtorEq] at h
  | succ f ih =>
    intro off v cs hx h
    have second : ∀ (ca cb : List Value) (n : Nat) (b : AVal), cs = ca ++ cb → ca.length = n → V E b cb → (match partOf b f with | some (o, v) => some (n + o, v) | none => none) = some (off, v) → V E v ((cs.drop off).take v.size) ∧ off + v.size ≤ cs.length := by
      intro ca cb n b e hl hb hh
      cases hp : partOf b f with
      | none => rw [hp] at hh; cases hh
      | some r =>
        obtain ⟨o', v'⟩ := r
        rw [hp] at hh
        simp only [Option.some.injEq, Prod.mk.injEq] at hh
        obtain ⟨rfl, rfl⟩ := hh
        obtain ⟨h1, h2⟩ := ih b o' v' cb hb hp
        subst e
        rw [← hl, List.drop_append, List.drop_of_length_le (by omega), List.nil_append, Nat.add_sub_cancel_left]
        exact ⟨h1, by simp only [List.length_append]; omega⟩
    cases x with
    | d t y =>
      cases t with
      | pair ta tb =>
        simp only [partOf] at h
        simp only [V, Rep] at hx
        obtain ⟨ca, cb, e, ha, hb⟩ := hx
        exact second ca cb ta.size (.d tb y.2) e ha.size (by simpa only [V] using hb) h
      | _ => simp only [partOf, reduceCtorEq] at h
    | pr b c =>
      simp only [partOf] at h
      simp only [V] at hx
      obtain ⟨ca, cb, e, ha, hb⟩ := hx
      exact second ca cb b.size c e ha.size hb h
    | _ => simp only [partOf, reduceCtorEq] at h

theorem fieldAddr_runs (h : Inv C g β s a w) {T : TypeId} {x : Operand} {f : Nat} (ho : o.op = .fieldAddr T x f) {v : AVal} (he : (fieldAddrA P T (s.ev x) f).eval = some v) : Runs P o a w (Sts C (s.put o.dst v)) := by
  have hx := h.ev x
  unfold fieldAddrA at he
  split at he
  · rename_i off ft hf
    obtain ⟨fs, fd, hT, hfd, rfl, rfl⟩ := fieldInfo_sound hf
    obtain ⟨h1, h2⟩ := eval_guard.1 he
    have hz : P.cellsOf fd.type ≠ 0 := by simpa using h1
    have run : ∀ bb n, a.eval x = .pointer (some ⟨bb, n, none⟩) → (Instr.fieldAt T (a.eval x) f).run P w = .ok (.pointer (some ⟨bb, n + fd.offset, none⟩)) w := by
      intro bb n hy
      rw [hy]
      simp [Instr.fieldAt, run_underlying hT, hfd, Instr.sureAddr, fieldPlace, run_sizeOf' (P := P) (e := fd.type) rfl (by omega), hz, Addr.add_lit]
    have runS : ∀ ad, a.eval x = .pointer (some ad) → (Instr.fieldAt T (a.eval x) f).run P w = .ok (.pointer (some (ad.add fd.offset))) w := by
      intro ad hy
      rw [hy]
      simp [Instr.fieldAt, run_underlying hT, hfd, Instr.sureAddr, fieldPlace, run_sizeOf' (P := P) (e := fd.type) rfl (by omega), hz]
    have fin : ∀ z, (Instr.fieldAt T (a.eval x) f).run P w = .ok z w → VS (s.env w g β) v z → Runs P o a w (Sts C (s.put o.dst v)) := by
      intro z h1 h2
      exact h.value h2 (exec_value (f := Instr.fieldAt T (a.eval x) f) (by simp only [execOp, ho]) h1)
    split at h2
    · rename_i id ver p n hl
      rw [hl] at hx
      obtain rfl := eval_ok.1 h2
      obtain ⟨ad, hy, hbnd, hcur⟩ := ptr_of hx
      refine fin _ (runS ad hy) ⟨_, ?_, rfl⟩
      simp only [V]
      refine ⟨_, rfl, hbnd, fun hc => ?_⟩
      obtain ⟨pl, hp, had⟩ := hcur hc
      exact ⟨pl, hp, by rw [had, Addr.add_lit]⟩
    · rename_i t y hl
      rw [hl] at hx
      obtain ⟨bb, off, vs, hy, hrow, hR⟩ := rptr_of hx
      split at h2
      · rename_i o' t' y' hp
        obtain ⟨h3, h4⟩ := eval_guard.1 h2
        obtain rfl := eval_ok.1 h4
        have h3 : fd.offset = o' := by simpa using h3
        obtain ⟨hV, hle⟩ := partOf_sound (.d t y) f o' (.d t' y') vs (by simpa only [V] using hR) hp
        refine fin _ (run bb off hy) ⟨_, ?_, rfl⟩
        simp only [V] at hV ⊢
        refine ⟨_, _, _, rfl, fun j u hj => ?_, hV⟩
        rw [List.getElem?_take] at hj
        split at hj
        · rw [List.getElem?_drop] at hj
          obtain ⟨b', o'', e, hh⟩ := hrow _ u hj
          simp only [Option.some.injEq, Addr.mk.injEq, and_true] at e
          obtain ⟨rfl, rfl⟩ := e
          exact ⟨_, _, rfl, by rw [h3, Nat.add_assoc]; exact hh⟩
        · cases hj
      · simp only [eval_fail] at h2
    · simp only [eval_fail] at h2
  · simp only [eval_fail] at he

theorem agg_of_partOf {x : AVal} {f : Nat} {r : Nat × AVal} (h : partOf x f = some r) : x.agg = true ∧ x.celled = true := by
  cases x with
  | d t y => cases t <;> cases f <;> simp [partOf] at h <;> exact ⟨rfl, rfl⟩
  | pr b c => exact ⟨rfl, rfl⟩
  | _ => cases f <;> simp [partOf] at h

theorem fits_isAggT {T : TypeId} {v : AVal} (h : fits P T v = true) : isAggT P T v.agg = true ∧ P.cellsOf T = v.size ∧ v.celled = true := by
  unfold fits at h
  simp only [Bool.and_eq_true, beq_iff_eq] at h
  exact ⟨h.2, h.1.2, h.1.1⟩

theorem field_runs (h : Inv C g β s a w) {T : TypeId} {x : Operand} {f : Nat} (ho : o.op = .field T x f) {v : AVal} (he : (fieldA P T (s.ev x) f).eval = some v) : Runs P o a w (Sts C (s.put o.dst v)) := by
  have hx := h.ev x
  unfold fieldA at he
  split at he
  · rename_i off ft o' v' hf hp
    obtain ⟨fs, fd, hT, hfd, rfl, rfl⟩ := fieldInfo_sound hf
    obtain ⟨h1, h2⟩ := eval_guard.1 he
    obtain rfl := eval_ok.1 h2
    simp only [Bool.and_eq_true, beq_iff_eq] at h1
    obtain ⟨rfl, hfits⟩ := h1
    obtain ⟨hag, hcel⟩ := agg_of_partOf hp
    obtain ⟨cs, hV, hO⟩ := hx.celled hcel
    rw [hag] at hO
    have hy : a.eval x = .agg cs.toArray := hO
    obtain ⟨hVp, hle⟩ := partOf_sound _ _ _ _ cs hV hp
    obtain ⟨q1, q2, q3⟩ := fits_isAggT hfits
    obtain ⟨y, hr, hOy⟩ := run_part (w := w) q1 q2 (fun hh => AVal.size_one hh) hle
    refine h.value (VS.of hVp hOy) (exec_value (f := Instr.field T (a.eval x) f) (by simp only [execOp, ho]) ?_)
    rw [hy]
    simp [Instr.field, run_underlying hT, hfd, asAgg, hr]
  · simp only [eval_fail] at he

theorem index_runs (h : Inv C g β s a w) {T : TypeId} {x y : Operand} (ho : o.op = .index T x y) {i : Int} (hi : (asInt (s.ev y)).eval = some i) {v : AVal} (he : (indexA P T (s.ev x) i).eval = some v) : Runs P o a w (Sts C (s.put o.dst v)) := by
  have hx := h.ev x
  obtain ⟨k, hy⟩ := asInt_of (h.ev y) hi
  have fin : ∀ z, (Instr.index T (a.eval x) (a.eval y)).run P w = .ok z w → VS (s.env w g β) v z → Runs P o a w (Sts C (s.put o.dst v)) := by
    intro z h1 h2
    exact h.value h2 (exec_value (f := Instr.index T (a.eval x) (a.eval y)) (by simp only [execOp, ho]) h1)
  unfold indexA at he
  split at he
  · rename_i n t l m e hl hT
    rw [hl] at hx
    obtain ⟨h1, h2⟩ := eval_guard.1 he
    obtain ⟨h3, h4⟩ := eval_chk.1 h2
    obtain rfl := eval_ok.1 h4
    simp only [Bool.and_eq_true, beq_iff_eq, decide_eq_true_eq] at h1 h3
    obtain ⟨rfl, hfits⟩ := h1
    obtain ⟨q1, q2, q3⟩ := fits_isAggT hfits
    obtain ⟨cs, hV, hO⟩ := hx.celled rfl
    have hyv : a.eval x = .agg cs.toArray := hO
    simp only [V, Rep] at hV
    obtain ⟨hlen, hch⟩ := hV
    have hlt : i.toNat < l.length := by omega
    obtain ⟨hp, hle⟩ := row_part hch hlt
    have q2' : P.cellsOf e = t.size := q2
    have q1' : isAggT P e t.agg = true := q1
    obtain ⟨y', hr, hOy⟩ := run_part (w := w) q1' q2' size_one_of hle
    obtain ⟨j, hj, _⟩ := isAggT_sound q1'
    rw [← nth_eq hlt] at hp
    refine fin y' ?_ (VS.of (by simpa only [V] using hp) hOy)
    rw [hyv, hy]
    have hsz := run_sizeOf hj w
    rw [← cellsOf_eq hj, q2'] at hsz
    simp [Instr.index, asIntOf, run_underlying hT, h3, hsz, hr]
  · rename_i st hl hT
    rw [hl] at hx
    obtain ⟨h3, h4⟩ := eval_chk.1 he
    obtain rfl := eval_ok.1 h4
    simp only [decide_eq_true_eq] at h3
    have e1 := str_of hx
    have hlt : i.toNat < st.data.toList.length := by
      have : st.size = st.data.toList.length := by rw [Array.length_toList]; rfl
      omega
    have hget : st[i.toNat]? = some (st.data.toList[i.toNat]) := by
      have hlt' : i.toNat < st.size := by omega
      rw [getElem?_pos st i.toNat hlt']
      rfl
    refine fin (.int .u8 ((st.data.toList.getD i.toNat 0).toNat : Int)) ?_ (VS_int _ _)
    rw [e1, hy]
    simp [Instr.index, asIntOf, run_underlying hT, h3.1, hget, List.getD_eq_getElem?_getD, List.getElem?_eq_getElem hlt]
  · simp only [eval_fail] at he

theorem VC_get {E : Env} : ∀ (c : AVal) (vs : List Value) (i : Nat) (v : AVal), VC E c vs → c.list[i]? = some v → ∃ y, vs[i]? = some y ∧ VS E v y := by
  intro c
  induction c with
  | cons x y _ ih =>
    intro vs i v hc hi
    simp only [VC] at hc
    obtain ⟨u, vs', cs, rfl, hV, hO, hc⟩ := hc
    cases i with
    | zero =>
      simp only [AVal.list, List.getElem?_cons_zero, Option.some.injEq] at hi
      subst hi
      exact ⟨u, rfl, VS.of hV hO⟩
    | succ i =>
      simp only [AVal.list, List.getElem?_cons_succ] at hi ⊢
      exact ih vs' i v hc hi
  | _ => intro vs i v hc hi; simp [AVal.list] at hi

theorem extract_runs (h : Inv C g β s a w) {x : Operand} {i : Nat} (ho : o.op = .extract x i) {v : AVal} (he : (Out.opt ((s.ev x).list[i]?)).eval = some v) : Runs P o a w (Sts C (s.put o.dst v)) := by
  have hx := h.ev x
  have he := eval_opt.1 he
  cases hc : s.ev x with
  | cons p q =>
    rw [hc] at hx he
    obtain ⟨vs, hy, hVC⟩ := hx
    obtain ⟨y, hv, hVS⟩ := VC_get _ vs i v hVC he
    refine h.value hVS (exec_value (f := Instr.extract (a.eval x) i) (by simp only [execOp, ho]) ?_)
    rw [hy]
    simp [Instr.extract, hv]
  | _ => rw [hc] at he; simp [AVal.list] at he

theorem VC_caps (h : Inv C g β s a w) : ∀ (l : List Operand), celledList (capsOf s l) = true → VC (s.env w g β) (capsOf s l) (l.map a.eval)
  | [], _ => by simp [capsOf, VC]
  | x :: xs, hc => by
    simp only [capsOf, celledList, Bool.and_eq_true] at hc
    obtain ⟨cs, hV, hO⟩ := (h.ev x).celled hc.1
    simp only [capsOf, VC, List.map_cons]
    exact ⟨_, _, cs, rfl, hV, hO, VC_caps h xs hc.2⟩

theorem makeFunc_runs (h : Inv C g β s a w) {f : FuncId} {first caps : Array Operand} (ho : o.op = .makeFunc (.func f) first caps) (h1 : first.isEmpty = true) (h2 : celledList (capsOf s caps.toList) = true) :
    Runs P o a w (Sts C (s.put o.dst (.fn f (capsOf s caps.toList)))) := by
  have hf : first = #[] := by simpa using h1
  refine h.value (x := .func (.func f) #[] (caps.toList.map a.eval).toArray) ⟨_, ?_, rfl⟩ (exec_value (f := Instr.makeFunc (.func f) (first.map a.eval) (caps.map a.eval)) (by simp only [execOp, ho]) ?_)
  · simp only [V]
    exact ⟨_, rfl, VC_caps h _ h2⟩
  · subst hf
    have : caps.map a.eval = (caps.toList.map a.eval).toArray := by apply Array.ext'; simp
    simp [Instr.makeFunc, this]

theorem toArr_runs (h : Inv C g β s a w) {T : TypeId} {x : Operand} (ho : o.op = .sliceToArrayPointer T x) {s' : AS} (he : (toArrA P s o.dst T (s.ev x)).eval = some s') : Runs P o a w (Sts C s') := by
  have hx := h.ev x
  unfold toArrA at he
  split at he
  · rename_i n e hT
    split at he
    · rename_i t ht
      obtain ⟨h1, h2⟩ := eval_guard.1 he
      obtain ⟨l, h3, h4⟩ := eval_bind.1 h2
      obtain ⟨h5, h6⟩ := eval_chk.1 h4
      obtain rfl := eval_ok.1 h6
      simp only [Bool.and_eq_true, Bool.not_eq_true', beq_iff_eq, beq_eq_false_iff_ne, decide_eq_true_eq] at h1 h5
      obtain ⟨⟨hz, hn⟩, hz0⟩ := h1
      obtain ⟨g1, i1, e1, t1, cs, hR, hO⟩ := toTy_sound h hx h3
      simp only [Rep] at hR
      obtain ⟨ad, cap, vs, rfl, hlc, hsome, hrow, hch⟩ := hR
      have hO' : [Value.slice ad (List.length l) cap] = [a.eval x] := hO
      have hy : a.eval x = .slice ad (List.length l) cap := by simpa using hO'.symm
      have hlen := Chunks.length (fun c x hx => Rep.size hx) hch
      have h0 : 0 < vs.length := by rw [hlen]; exact Nat.mul_pos (by omega) (by omega)
      obtain ⟨bb, off, e2, _⟩ := hrow 0 vs[0] (by simp [h0])
      subst e2
      refine .inl ⟨.pointer (some ⟨bb, off, none⟩), w, ?_, g1, β, i1.put o.dst ⟨_, ?_, rfl⟩⟩
      · refine exec_value (f := Instr.arrayAt T (a.eval x)) (by simp only [execOp, ho]) ?_
        rw [hy]
        have : ¬ List.length l < n := by omega
        simp [Instr.arrayAt, run_underlying hT, this]
      · simp only [V]
        refine ⟨bb, off, vs.take (n * t.size), rfl, fun j u hj => ?_, ?_⟩
        · rw [List.getElem?_take] at hj
          split at hj
          · exact hrow j u hj
          · cases hj
        · simp only [Rep]
          exact ⟨by simp; omega, Chunks.take (fun _ _ hx => hx.size) n hch⟩
    · simp only [eval_fail] at he
  · simp only [eval_fail] at he

end
end Go.Ab
