/-
  Made short by a program of mine (wip/tools/mini.py).
-/
import Derived.WalkKit
import Derived.KernelRfl
import Derived.OrdersIn
import Derived.LoopNIn
import Derived.TacticsIn
import Derived.RangeFuncCalls
import Derived.RangeFuncLeaves
import Derived.RangeFuncRecord
import Derived.MapKept
import Derived.ChangeMaps3
set_option linter.unusedVariables false
set_option linter.unusedSimpArgs false
set_option maxRecDepth 100000
set_option synthInstance.maxSize 5000
open List renaming length->ag,replicate->ab,set->fK
open BitVec renaming ofInt->aZ
open Nat renaming beq->iv
open UInt8 renaming ofNat->eZ
noncomputable section
namespace Go.Ab
theorem fZ:type_of% @Array.ext':= @Array.ext'
theorem rM:type_of% @Array.ext_getElem?:= @Array.ext_getElem?
theorem cF:type_of% @Array.getD_eq_getD_getElem?:= @Array.getD_eq_getD_getElem?
theorem ke:type_of% @Array.getElem?_append:= @Array.getElem?_append
theorem fb:type_of% @Array.getElem?_eq_getElem:= @Array.getElem?_eq_getElem
theorem bK:type_of% @Array.getElem?_eq_some_iff:= @Array.getElem?_eq_some_iff
theorem gh:type_of% @Array.getElem?_modify:= @Array.getElem?_modify
theorem dP:type_of% @Array.getElem?_setIfInBounds:= @Array.getElem?_setIfInBounds
theorem iw:type_of% @Array.getElem?_toList:= @Array.getElem?_toList
theorem cH:type_of% @Array.length_toList:= @Array.length_toList
theorem bS:type_of% @Array.toList_append:= @Array.toList_append
theorem iN:type_of% @BitVec.ofInt_natCast:= @BitVec.ofInt_natCast
theorem rN:type_of% @BitVec.toNat_ofInt:= @BitVec.toNat_ofInt
theorem jQ:type_of% @BitVec.toNat_ofNat:= @BitVec.toNat_ofNat
theorem aq:type_of% @Bool.and_eq_true:= @Bool.and_eq_true
theorem vK:type_of% @Bool.and_self:= @Bool.and_self
theorem iJ:type_of% @Bool.eq_false_or_eq_true:= @Bool.eq_false_or_eq_true
theorem dr:type_of% @Bool.false_and:= @Bool.false_and
theorem bE:type_of% @Bool.false_eq_true:= @Bool.false_eq_true
theorem lq:type_of% @Bool.false_or:= @Bool.false_or
theorem cr:type_of% @Bool.not_eq_true':= @Bool.not_eq_true'
theorem eT:type_of% @Bool.not_false:= @Bool.not_false
theorem ct:type_of% @Bool.not_true:= @Bool.not_true
theorem gw:type_of% @Bool.or_eq_true:= @Bool.or_eq_true
theorem qH:type_of% @Bool.or_false:= @Bool.or_false
theorem bN:type_of% @Bool.true_and:= @Bool.true_and
theorem tj:type_of% @Int.add_emod:= @Int.add_emod
theorem pD:type_of% @Int.dvd_refl:= @Int.dvd_refl
theorem gB:type_of% @Int.emod_emod_of_dvd:= @Int.emod_emod_of_dvd
theorem eU:type_of% @Int.emod_eq_of_lt:= @Int.emod_eq_of_lt
theorem jR:type_of% @Int.emod_lt_of_pos:= @Int.emod_lt_of_pos
theorem ko:type_of% @Int.emod_nonneg:= @Int.emod_nonneg
theorem jS:type_of% @Int.fdiv_eq_ediv_of_nonneg:= @Int.fdiv_eq_ediv_of_nonneg
theorem iO:type_of% @Int.le_refl:= @Int.le_refl
theorem qI:type_of% @Int.mul_assoc:= @Int.mul_assoc
theorem pE:type_of% @Int.mul_comm:= @Int.mul_comm
theorem jk:type_of% @Int.mul_emod:= @Int.mul_emod
theorem wP:type_of% @Int.mul_one:= @Int.mul_one
theorem pF:type_of% @Int.natCast_emod:= @Int.natCast_emod
theorem kq:type_of% @Int.natCast_mul:= @Int.natCast_mul
theorem gA:type_of% @Int.natCast_nonneg:= @Int.natCast_nonneg
theorem kr:type_of% @Int.natCast_pow:= @Int.natCast_pow
theorem fC:type_of% @Int.pow_succ:= @Int.pow_succ
theorem kC:type_of% @Int.pow_zero:= @Int.pow_zero
theorem pG:type_of% @Int.sub_zero:= @Int.sub_zero
theorem jT:type_of% @Int.tdiv_eq_ediv_of_nonneg:= @Int.tdiv_eq_ediv_of_nonneg
theorem gT:type_of% @Int.tmod_eq_emod_of_nonneg:= @Int.tmod_eq_emod_of_nonneg
theorem aa:type_of% @Int.toNat_natCast:= @Int.toNat_natCast
theorem aY:type_of% @Int.toNat_zero:= @Int.toNat_zero
theorem gU:type_of% @List.Perm.refl:= @List.Perm.refl
theorem iK:type_of% @List.all_cons:= @List.all_cons
theorem dd:type_of% @List.all_eq_true:= @List.all_eq_true
theorem lr:type_of% @List.any_cons:= @List.any_cons
theorem iZ:type_of% @List.any_eq_false:= @List.any_eq_false
theorem pH:type_of% @List.any_eq_true:= @List.any_eq_true
theorem tl:type_of% @List.any_nil:= @List.any_nil
theorem aC:type_of% @List.append_assoc:= @List.append_assoc
theorem bj:type_of% @List.append_nil:= @List.append_nil
theorem cX:type_of% @List.cons.injEq:= @List.cons.injEq
theorem iD:type_of% @List.cons_append:= @List.cons_append
theorem jI:type_of% @List.drop_append:= @List.drop_append
theorem fI:type_of% @List.drop_drop:= @List.drop_drop
theorem ao:type_of% @List.drop_eq_getElem_cons:= @List.drop_eq_getElem_cons
theorem ku:type_of% @List.drop_left':= @List.drop_left'
theorem aK:type_of% @List.drop_length:= @List.drop_length
theorem du:type_of% @List.drop_of_length_le:= @List.drop_of_length_le
theorem tm:type_of% @List.drop_take:= @List.drop_take
theorem aF:type_of% @List.drop_zero:= @List.drop_zero
theorem bB:type_of% @List.eq_nil_of_length_eq_zero:= @List.eq_nil_of_length_eq_zero
theorem kD:type_of% @List.ext_getElem?:= @List.ext_getElem?
theorem jg:type_of% @List.filter_eq_self:= @List.filter_eq_self
theorem dh:type_of% @List.flatMap_cons:= @List.flatMap_cons
theorem pI:type_of% @List.flatMap_nil:= @List.flatMap_nil
theorem ja:type_of% @List.flatten_cons:= @List.flatten_cons
theorem pJ:type_of% @List.flatten_nil:= @List.flatten_nil
theorem bo:type_of% @List.foldl_cons:= @List.foldl_cons
theorem cK:type_of% @List.foldl_nil:= @List.foldl_nil
theorem qz:type_of% @List.getD_cons_succ:= @List.getD_cons_succ
theorem jh:type_of% @List.getD_cons_zero:= @List.getD_cons_zero
theorem aD:type_of% @List.getD_eq_getElem?_getD:= @List.getD_eq_getElem?_getD
theorem fe:type_of% @List.getElem?_append_left:= @List.getElem?_append_left
theorem lT:type_of% @List.getElem?_cons_succ:= @List.getElem?_cons_succ
theorem fF:type_of% @List.getElem?_cons_zero:= @List.getElem?_cons_zero
theorem fJ:type_of% @List.getElem?_drop:= @List.getElem?_drop
theorem bO:type_of% @List.getElem?_eq_getElem:= @List.getElem?_eq_getElem
theorem dD:type_of% @List.getElem?_eq_none:= @List.getElem?_eq_none
theorem dC:type_of% @List.getElem?_eq_some_iff:= @List.getElem?_eq_some_iff
theorem dY:type_of% @List.getElem?_map:= @List.getElem?_map
theorem dW:type_of% @List.getElem?_set_ne:= @List.getElem?_set_ne
theorem cZ:type_of% @List.getElem?_take:= @List.getElem?_take
theorem aM:type_of% @List.getElem_mem:= @List.getElem_mem
theorem ai:type_of% @List.length_append:= @List.length_append
theorem az:type_of% @List.length_cons:= @List.length_cons
theorem di:type_of% @List.length_drop:= @List.length_drop
theorem bX:type_of% @List.length_map:= @List.length_map
theorem aX:type_of% @List.length_nil:= @List.length_nil
theorem b8:type_of% @List.length_replicate:= @List.length_replicate
theorem re:type_of% @List.length_set:= @List.length_set
theorem bq:type_of% @List.length_take:= @List.length_take
theorem rh:type_of% @List.map_append:= @List.map_append
theorem gb:type_of% @List.map_congr_left:= @List.map_congr_left
theorem bT:type_of% @List.map_cons:= @List.map_cons
theorem gV:type_of% @List.map_nil:= @List.map_nil
theorem bD:type_of% @List.mem_append:= @List.mem_append
theorem cj:type_of% @List.mem_cons:= @List.mem_cons
theorem aI:type_of% @List.mem_cons_of_mem:= @List.mem_cons_of_mem
theorem aN:type_of% @List.mem_cons_self:= @List.mem_cons_self
theorem nq:type_of% @List.mem_filter:= @List.mem_filter
theorem pK:type_of% @List.mem_flatMap:= @List.mem_flatMap
theorem kf:type_of% @List.mem_iff_getElem?:= @List.mem_iff_getElem?
theorem c9:type_of% @List.mem_map:= @List.mem_map
theorem cG:type_of% @List.mem_of_getElem?:= @List.mem_of_getElem?
theorem eY:type_of% @List.mem_of_mem_take:= @List.mem_of_mem_take
theorem rO:type_of% @List.mem_replicate:= @List.mem_replicate
theorem bn:type_of% @List.mem_singleton:= @List.mem_singleton
theorem aR:type_of% @List.nil_append:= @List.nil_append
theorem cY:type_of% @List.nodup_cons:= @List.nodup_cons
theorem gm:type_of% @List.nodup_nil:= @List.nodup_nil
theorem gj:type_of% @List.set_getElem_self:= @List.set_getElem_self
theorem cS:type_of% @List.singleton_append:= @List.singleton_append
theorem gX:type_of% @List.size_toArray:= @List.size_toArray
theorem pL:type_of% @List.take_append:= @List.take_append
theorem dE:type_of% @List.take_append_drop:= @List.take_append_drop
theorem iP:type_of% @List.take_append_of_le_length:= @List.take_append_of_le_length
theorem ky:type_of% @List.take_left':= @List.take_left'
theorem bJ:type_of% @List.take_length:= @List.take_length
theorem aW:type_of% @List.take_of_length_le:= @List.take_of_length_le
theorem gY:type_of% @List.take_succ_eq_append_getElem:= @List.take_succ_eq_append_getElem
theorem gZ:type_of% @List.take_take:= @List.take_take
theorem dF:type_of% @List.take_zero:= @List.take_zero
theorem eK:type_of% @Nat.add_assoc:= @Nat.add_assoc
theorem eg:type_of% @Nat.add_mul:= @Nat.add_mul
theorem iE:type_of% @Nat.add_sub_cancel:= @Nat.add_sub_cancel
theorem cd:type_of% @Nat.add_zero:= @Nat.add_zero
theorem eO:type_of% @Nat.eq_of_beq_eq_true:= @Nat.eq_of_beq_eq_true
theorem iF:type_of% @Nat.eq_zero_or_pos:= @Nat.eq_zero_or_pos
theorem dG:type_of% @Nat.le_of_ble_eq_true:= @Nat.le_of_ble_eq_true
theorem tp:type_of% @Nat.le_of_eq:= @Nat.le_of_eq
theorem aw:type_of% @Nat.le_refl:= @Nat.le_refl
theorem oo:type_of% @Nat.le_succ:= @Nat.le_succ
theorem gz:type_of% @Nat.le_trans:= @Nat.le_trans
theorem gS:type_of% @Nat.lt_irrefl:= @Nat.lt_irrefl
theorem pM:type_of% @Nat.lt_or_ge:= @Nat.lt_or_ge
theorem fM:type_of% @Nat.min_eq_left:= @Nat.min_eq_left
theorem jJ:type_of% @Nat.mod_eq_of_lt:= @Nat.mod_eq_of_lt
theorem pN:type_of% @Nat.mul_comm:= @Nat.mul_comm
theorem cO:type_of% @Nat.mul_le_mul_right:= @Nat.mul_le_mul_right
theorem kE:type_of% @Nat.mul_mod:= @Nat.mul_mod
theorem gD:type_of% @Nat.mul_one:= @Nat.mul_one
theorem ij:type_of% @Nat.one_mul:= @Nat.one_mul
theorem oq:type_of% @Nat.pow_add:= @Nat.pow_add
theorem kg:type_of% @Nat.sub_eq_zero_of_le:= @Nat.sub_eq_zero_of_le
theorem aJ:type_of% @Nat.zero_add:= @Nat.zero_add
theorem aL:type_of% @Nat.zero_le:= @Nat.zero_le
theorem mK:type_of% @Nat.zero_mul:= @Nat.zero_mul
theorem dK:type_of% @Option.getD_some:= @Option.getD_some
theorem bP:type_of% @Option.isSome_iff_exists:= @Option.isSome_iff_exists
theorem cU:type_of% @Option.map_eq_some_iff:= @Option.map_eq_some_iff
theorem dQ:type_of% @Option.map_some:= @Option.map_some
theorem bk:type_of% @Option.some.inj:= @Option.some.inj
theorem ay:type_of% @Option.some.injEq:= @Option.some.injEq
theorem cv:type_of% @Prod.mk.injEq:= @Prod.mk.injEq
theorem qA:type_of% @Quotient.exists_rep:= @Quotient.exists_rep
theorem lV:type_of% @Sum.getLeft?_inl:= @Sum.getLeft?_inl
theorem dv:type_of% @Sum.getRight?_inr:= @Sum.getRight?_inr
theorem ot:type_of% @Sum.isLeft_inl:= @Sum.isLeft_inl
theorem ee:type_of% @Sum.isLeft_inr:= @Sum.isLeft_inr
theorem iR:type_of% @and_self:= @and_self
theorem ix:type_of% @and_true:= @and_true
theorem gf:type_of% @beq_eq_false_iff_ne:= @beq_eq_false_iff_ne
theorem dp:type_of% @beq_iff_eq:= @beq_iff_eq
theorem bl:type_of% @congrArg:= @congrArg
theorem je:type_of% @decide_eq_false:= @decide_eq_false
theorem gF:type_of% @decide_eq_false_iff_not:= @decide_eq_false_iff_not
theorem gq:type_of% @decide_eq_true:= @decide_eq_true
theorem ba:type_of% @decide_eq_true_eq:= @decide_eq_true_eq
theorem cn:type_of% @decide_true:= @decide_true
theorem BH:type_of% @dif_neg:= @dif_neg
theorem yD:type_of% @dif_pos:= @dif_pos
theorem kP:type_of% @getElem!_pos:= @getElem!_pos
theorem bp:type_of% @if_false:= @if_false
theorem bG:type_of% @if_true:= @if_true
theorem mi:type_of% @true_and:= @true_and
end Go.Ab
namespace Go.Ab
inductive Ty where
 |int (k:IntKind) | bool | str | slice (t:Ty) | unit | pair (a b:Ty) | arr (n:Nat) (t:Ty)
 |gM (t:Ty)
 |tR (t:Ty)
 deriving DecidableEq,Inhabited
@[reducible] def Ty.den:Ty->Type
 | .int _=>Int
 | .bool=>Bool
 | .str=>ByteArray
 | .slice t=>List t.den
 | .unit=>Unit
 | .pair a b=>a.den×b.den
 | .arr _ t=>List t.den
 | .gM t=>Option (List t.den)
 | .tR t=>Option t.den
def Ty.size:Ty->Nat
 | .unit=>0
 | .pair a b=>a.size+b.size
 | .arr n t=>n*t.size
 | .int _ | .bool | .str | .slice _ | .gM _ | .tR _=>1
def Ty.agg:Ty->Bool
 | .unit | .pair _ _ | .arr _ _=>true
 | .int _ | .bool | .str | .slice _ | .gM _ | .tR _=>false
def Ty.zero:(t:Ty)->t.den
 | .int _=>(0:Int)
 | .bool=>false
 | .str=>ByteArray.empty
 | .slice _=> []
 | .unit=>()
 | .pair a b=>(a.zero,b.zero)
 | .arr n t=>ab n t.zero
 | .gM _=>none
 | .tR _=>none
def Ty.comp:Ty->Bool
 | .slice _ | .gM _ | .tR _=>false
 | .pair a b=>a.comp && b.comp
 | .arr _ t=>t.comp
 | .int _ | .bool | .str | .unit=>true
def lP{α:Type}(f:α->α->Bool):List α->List α->Bool
 |[],[]=>true
 |x::xs,y::ys=>f x y && lP f xs ys
 |_,_=>false
def Ty.beq:(t:Ty)->t.den->t.den->Bool
 | .int _,x,y=>(x:Int)==y
 | .bool,x,y=>(x:Bool)==y
 | .str,x,y=>(x:ByteArray).toList==(y:ByteArray).toList
 | .slice t,x,y=>lP t.beq x y
 | .unit,_,_=>true
 | .pair a b,x,y=>a.beq x.1 y.1 && b.beq x.2 y.2
 | .arr _ t,x,y=>lP t.beq x y
 | .gM t,x,y=>lP t.beq (x.getD []) (y.getD [])
 | .tR _,_,_=>false
def u9(t t':Ty)(x:t.den):Option t'.den:=if h:t=t' then some (h▸x) else none
def aep:(a b:Ty)->Option (a.den->b.den)
 | .gM t,.slice t'=>if h:t=t' then some λo=>cast (bl (λt:Ty=>List t.den) h) (o.getD []) else none
 | .slice t,.gM t'=>if h:t=t' then some λl=>some (cast (bl (λt:Ty=>List t.den) h) l) else none
 | .pair a b,.pair c d=>match aep a c,aep b d with
  |some f,some k=>some λx=>(f x.1,k x.2)
  |_,_=>none
 | .slice a,.slice b=>match aep a b with
  |some f=>some (List.map f)
  |none=>none
 |a,b=>if h:a=b then some (cast (bl Ty.den h)) else none
def aXA(a b:Ty)(x:a.den):b.den:=match aep a b with | some f=>f x | none=>b.zero
def Hm(t t':Ty)(x:t.den):Option t'.den:=
 match u9 t t' x with
 |some y=>some y
 |none=>match aep t t' with
  |some f=>some (f x)
  |none=>none
def nth(t:Ty)(l:List t.den)(i:Nat):t.den:=l.getD i t.zero
inductive Id where
 |bh (k:Nat)
 |new (site j:Nat)
 deriving DecidableEq,Inhabited
inductive Ke where
 |fst | snd
 |idx (i:Nat)
 |arr
structure uZ where
 y:Nat
 ps:Array Tmp
 as:Code
 b:Code
inductive aA where
 |undef
 |gone
 |cV | qC | xc | CI
 |d (t:Ty) (x:t.den)
 |pr (a b:aA)
 |ptr (id:Id) (ver:Nat) (p:List Ke) (n:Nat)
 |dL (t:Ty) (x:t.den)
 |bu (id:Id) (ver:Nat) (p:List Ke) (c i len:Nat)
 |fn (f:FuncId) (caps:aA)
 |cons (a b:aA)
 |nil
 |vec (e:TypeId) (t:Ty) (l:List t.den)
 |sb (l:List Int)
 |bx (e:TypeId) (z:Nat) (c:aA)
 |cm (id:Id) (ver:Nat)
 |mp (k v:Ty) (l:List (k.den×v.den))
 |sH (q:Id) (ver:Nat) (k v:Ty) (rest:List (k.den×v.den)) (cur:Option (k.den×v.den))
 |yl (id:Id) (ver:Nat)
 |qX (c:uZ) (frame:aA) (p:Nat)
inductive dB where
 |dead
 |obj (ver:Nat) (fr:Bool) (c:aA)
def dH(c:aA):List dB:=[.obj 0 false c]
def eG(q:Nat):aA:= .ptr (.new q 0) 0 [] 0
def nE(q n:Nat):aA:= .bu (.new q 0) 0 [] 0 0 n
def fL:aA:= .d .unit ()
def bA:aA:= .undef
structure AS where
 cg:List aA
 bU:List dB
 news:List (List dB)
def aP(n:Nat)(l:List aA):List aA:=ab n .undef++l
def bC(n:Nat)(l:List (List dB)):List (List dB):=ab n []++l
inductive Out(α:Type):Type 1 where
 |ok (a:α)
 |fail
 |uQ (c:Bool) (r:Out α)
 |get {β:Type} (x:Option β) (f:β->Out α)
 |br (c:Bool) (a b:Out α)
def Out.eval{α:Type}:Out α->Option α
 | .ok a=>some a
 | .fail=>none
 | .uQ c r=>match c with | true=>r.eval | false=>none
 | .get x f=>match x with | some y=>(f y).eval | none=>none
 | .br c a b=>match c with | true=>a.eval | false=>b.eval
def aG{α:Type}(c:Bool)(x y:Option α):Option α:=match c with | true=>x | false=>y
def ak{α β:Type}(x:Option α)(f:α->Option β):Option β:=match x with | some a=>f a | none=>none
def Out.run{α R:Type}:Out α->(α->Option R)->Option R
 | .ok a,k=>k a
 | .fail,_=>none
 | .uQ c r,k=>aG c (r.run k) none
 | .get x f,k=>ak x λy=>(f y).run k
 | .br c a b,k=>aG c (a.run k) (b.run k)
def Out.bind{α β:Type}:Out α->(α->Out β)->Out β
 | .ok a,f=>f a
 | .fail,_=> .fail
 | .uQ c r,f=> .uQ c (r.bind f)
 | .get x g,f=> .get x λy=>(g y).bind f
 | .br c a b,f=> .br c (a.bind f) (b.bind f)
def Out.opt{α:Type}:Option α->Out α
 |some a=> .ok a
 |none=> .fail
def Out.guard{α:Type}(c:Bool)(r:Out α):Out α:=match c with | true=>r | false=> .fail
def aA.size:aA->Nat
 | .d t _=>t.size
 | .pr a b=>a.size+b.size
 |_=>1
def aA.agg:aA->Bool
 | .d t _=>t.agg
 | .pr _ _=>true
 |_=>false
def aA.eL:aA->Bool
 | .undef | .cons _ _ | .nil | .vec .. | .bx .. | .mp .. | .sH .. | .qX .. =>false
 |_=>true
def aA.strip:aA->aA
 | .bx _ _ c=>c
 |c=>c
def aA.wrap:aA->aA->aA
 | .bx e z _,c=> .bx e z c
 |_,c=>c
def Qe:aA->aA->aA
 | .d a x,.d b y=> .d (.pair a b) (x,y)
 |a,b=> .pr a b
def ofConst:Value->aA
 | .bool b=> .d .bool b
 | .int k n=> .d (.int k) n
 | .string s=> .d .str s
 | .slice none 0 0=> .cV
 | .pointer none=> .qC
 | .nilFunc=> .xc
 | .map none=> .CI
 |_=> .undef
def AS.slot(s:AS)(i:Nat):aA:=s.cg.getD i .undef
def AS.ev(s:AS):Operand->aA
 | .tmp t=>s.slot t
 | .const v=>ofConst v
 | .func f=> .fn f .nil
 | .global _=> .undef
def AS.put(s:AS)(dst:Option Tmp)(v:aA):AS:=
 match dst with
 |some t=> {s with cg:=s.cg.set t v}
 |none=>s
def AS.bQ(s:AS):Id->Option dB
 | .bh k=>s.bU[k]?
 | .new i j=>(s.news.getD i [])[j]?
def AS.bg(s:AS)(id:Id)(e:dB):AS:=
 match id with
 | .bh k=> {s with bU:=s.bU.set k e}
 | .new i j=> {s with news:=s.news.set i ((s.news.getD i []).set j e)}
def AS.dV(s:AS)(i:Nat):Bool:=match s.news[i]? with | some []=>true | _=>false
def AS.born(s:AS)(i:Nat)(es:List dB):AS:= {s with news:=s.news.set i es}
def AS.obj(s:AS)(id:Id):Option (Nat×Bool×aA):=
 match s.bQ id with
 |some (.obj v f c)=>some (v,f,c)
 |_=>none
def adD(P:Program)(nl:Bool):Nat->TypeId->Option Ty
 | 0,_=>none
 |n+1,T=>
  match P.underlying T with
  |some (.int k)=>some (.int k)
  |some .bool=>some .bool
  |some .string=>some .str
  |some (.slice e)=>match adD P false n e with | some t=>some (match nl with | true=> .gM t | false=> .slice t) | none=>none
  |some (.array k e)=>match adD P nl n e with | some t=>some (.arr k t) | none=>none
  |some (.pointer e)=>match adD P false n e with | some t=>some (.tR t) | none=>none
  |some (.struct fs)=>fs.toList.foldr (λf acc=>match adD P nl n f.type,acc with | some a,some b=>some (.pair a b) | _,_=>none) (some .unit)
  |_=>none
def asB(P:Program):Nat->TypeId->Option Ty:=adD P false
def zeroOf(P:Program):Nat->TypeId->Option aA
 | 0,_=>none
 |n+1,T=>
  match P.underlying T with
  |some (.int k)=>some (.d (.int k) (0:Int))
  |some .bool=>some (.d .bool false)
  |some .string=>some (.d .str ByteArray.empty)
  |some (.slice _)=>some .cV
  |some (.pointer _)=>some .qC
  |some (.map _ _)=>some .CI
  |some (.func _ _ _)=>some .xc
  |some (.array k e)=>match asB P n e with | some t=>some (.d (.arr k t) (ab k t.zero)) | none=>none
  |some (.struct fs)=>fs.toList.foldr (λf acc=>match zeroOf P n f.type,acc with | some a,some b=>some (Qe a b) | _,_=>none) (some (.d .unit ()))
  |_=>none
def depth:Nat:=12
def fits(P:Program)(T:TypeId)(v:aA):Bool:=
 v.eL && (P.cellsOf T==v.size) &&
 (match P.underlying T with | some (.struct _)=>v.agg | some (.array _ _)=>v.agg | some _=> !v.agg | none=>false)
def nK:Nat->List Ke
 | 0=> [.fst]
 |n+1=> .snd::nK n
def loc:aA->List Ke->Out (Nat×aA)
 |c,[]=> .ok (0,c)
 |c,.arr::p=>loc c p
 | .pr a _,.fst::p=>loc a p
 | .pr a b,.snd::p=>(loc b p).bind λ(n,v)=> .ok (a.size+n,v)
 | .d (.pair a _) x,.fst::p=>loc (.d a x.1) p
 | .d (.pair a b) x,.snd::p=>(loc (.d b x.2) p).bind λ(n,v)=> .ok (a.size+n,v)
 | .d (.arr _ t) l,.idx i::p=> .uQ (decide (i < (l:List t.den).length)) ((loc (.d t (nth t l i)) p).bind λ(n,v)=> .ok (i*t.size+n,v))
 | .vec _ t l,.idx i::p=> .uQ (decide (i < l.length)) ((loc (.d t (nth t l i)) p).bind λ(n,v)=> .ok (i*t.size+n,v))
 |_,_::_=> .fail
def xP:aA->List Ke->aA->Out aA
 |c,.arr::p,v=>xP c p v
 | .vec ..,[],_=> .fail
 | .mp ..,[],_=> .fail
 | .sH ..,[],_=> .fail
 | .qX ..,[],_=> .fail
 |c,[],v=> .guard (v.eL && (c.size==v.size)) (.ok v)
 | .pr a b,.fst::p,v=>(xP a p v).bind λa'=> .ok (Qe a' b)
 | .pr a b,.snd::p,v=>(xP b p v).bind λb'=> .ok (Qe a b')
 | .d (.pair a b) x,.fst::p,v=>(xP (.d a x.1) p v).bind λa'=> .ok (Qe a' (.d b x.2))
 | .d (.pair a b) x,.snd::p,v=>(xP (.d b x.2) p v).bind λb'=> .ok (Qe (.d a x.1) b')
 | .d (.arr n t) l,.idx i::p,v=> .uQ (decide (i < (l:List t.den).length)) ((xP (.d t (nth t l i)) p v).bind fun
   | .d t' y=>(Out.opt (u9 t' t y)).bind λy=> .ok (.d (.arr n t) ((l:List t.den).set i y))
   |_=> .fail)
 | .vec e t l,.idx i::p,v=> .uQ (decide (i < l.length)) ((xP (.d t (nth t l i)) p v).bind fun
   | .d t' y=>(Out.opt (u9 t' t y)).bind λy=> .ok (.vec e t (l.set i y))
   |_=> .fail)
 |_,_::_,_=> .fail
def AS.row(s:AS)(id:Id)(ver:Nat)(p:List Ke):Out (Nat×(t:Ty)×List t.den):=
 match s.obj id with
 |some (v,_,c)=> .guard (v==ver) ((loc c.strip p).bind fun
  | (n,.d (.arr _ t) l)=> .ok (n,⟨t,l⟩)
  | (n,.vec _ t l)=> .ok (n,⟨t,l⟩)
  |_=> .fail)
 |none=> .fail
def cut{α:Type}(l:List α)(i len:Nat):List α:=(l.drop i).take len
def AS.iW(s:AS):(t:Ty)->aA->Out t.den
 |t,.d t' x=>Out.opt (Hm t' t x)
 | .slice _,.cV=> .ok []
 | .gM _,.cV=> .ok none
 | .slice t,.bu id ver p c i len=>(s.row id ver p).bind λr=> .uQ (decide (r.1+i*r.2.1.size=c/\i+len<=r.2.2.length)) (Out.opt (Hm (.slice r.2.1) (.slice t) (cut r.2.2 i len)))
 | .gM t,.bu id ver p c i len=>(s.row id ver p).bind λr=> .uQ (decide (r.1+i*r.2.1.size=c/\i+len<=r.2.2.length)) (Out.opt (Hm (.slice r.2.1) (.gM t) (cut r.2.2 i len)))
 | .pair a b,.pr x y=>(s.iW a x).bind λx=>(s.iW b y).bind λy=> .ok (x,y)
 |_,_=> .fail
def aA.shared:aA->List Id
 | .bu id _ _ _ _ _=> [id]
 | .pr a b=>a.shared++b.shared
 |_=> []
def AS.freeze(s:AS)(id:Id):AS:=
 match s.bQ id with
 |some (.obj v _ c)=>s.bg id (.obj v true c)
 |_=>s
def AS.bt(s:AS):List Id->AS
 |[]=>s
 |id::ids=>(s.freeze id).bt ids
end Go.Ab
namespace Go.Ab
def aI6{α:Type}(f:α->List Value->Option (List Value)):List α->List Value->Option (List Value)
 |[],cs=>some cs
 |x::xs,cs=>match f x cs with | some r=>aI6 f xs r | none=>none
def yG:(t:Ty)->t.den->List Value->Option (List Value)
 | .int k,x,.int k' n::r=>match decide (k=k'),decide (n=(x:Int)) with | true,true=>some r | _,_=>none
 | .bool,x,.bool b::r=>match decide (b=(x:Bool)) with | true=>some r | false=>none
 | .str,x,.string s::r=>match decide (s=(x:ByteArray)) with | true=>some r | false=>none
 | .slice _,[],.slice none 0 0::r=>some r
 | .gM _,none,.slice none 0 0::r=>some r
 | .tR _,none,.pointer none::r=>some r
 | .unit,_,r=>some r
 | .pair a b,x,r=>match yG a x.1 r with | some r'=>yG b x.2 r' | none=>none
 | .arr n t,l,r=>match decide ((l:List t.den).length=n) with | true=>aI6 (yG t) l r | false=>none
 |_,_,_=>none
def WW:aA->List Value->Option (List Value)
 | .d t x,r=>yG t x r
 | .cV,.slice none 0 0::r=>some r
 | .qC,.pointer none::r=>some r
 | .xc,.nilFunc::r=>some r
 | .CI,.map none::r=>some r
 | .pr a b,r=>match WW a r with | some r'=>WW b r' | none=>none
 |_,_=>none
def sa:Value->Bool | .agg _=>true | _=>false
def ams(P:Program)(T:TypeId)(z:aA):Bool:=
 match P.info? T with
 |some i=>match i.zero with
  |some zv=>(match WW z zv.cells.toList with | some []=>true | _=>false) && (sa zv==z.agg)
  |none=>false
 |none=>false
structure fx where
 val:aA
 bU:List dB
 news:List dB
structure Entry where
 params:List (Option Ty)
 X:Type
 run:List aA->List dB->Option X
 out:List aA->List dB->X->fx
 sp:X->Out X:= .ok
 az6:∀x y,(sp x).eval=some y->y=x:=by exact λx y h=>(bk h).symm
 rel:Bool:=false
 set:List aA->List dB->X->Prop:=λ_ _ _=>False
abbrev om:=FuncId->List aA->Option Entry
def aA.ids:aA->List Id
 | .ptr id _ _ _=> [id]
 | .bu id _ _ _ _ _=> [id]
 | .pr a b=>a.ids++b.ids
 | .cons a b=>a.ids++b.ids
 | .fn _ c=>c.ids
 | .bx _ _ c=>c.ids
 | .cm id _=> [id]
 | .yl id _=> [id]
 | .qX _ f _=>f.ids
 | .sH id _ _ _ _ _=> [id]
 |_=> []
def dB.ids:dB->List Id
 | .obj _ _ c=>c.ids
 | .dead=> []
def AS.reach(s:AS):Nat->List Id->List Id->List Id
 | 0,_,acc=>acc
 |_+1,[],acc=>acc
 |n+1,id::todo,acc=>if acc.contains id then s.reach n todo acc else s.reach n (((s.bQ id).getD .dead).ids++todo) (acc++ [id])
def idxOf(id:Id):List Id->Option Nat
 |[]=>none
 |x::xs=>if x=id then some 0 else(idxOf id xs).map (· +1)
def aA.iC(ρ:Id->Nat->Option (Id×Nat)):aA->aA
 | .ptr id ver p n=>match ρ id ver with | some r=> .ptr r.1 r.2 p n | none=> .gone
 | .bu id ver p c i len=>match ρ id ver with | some r=> .bu r.1 r.2 p c i len | none=> .gone
 | .pr a b=> .pr (a.iC ρ) (b.iC ρ)
 | .cons a b=> .cons (a.iC ρ) (b.iC ρ)
 | .fn f c=> .fn f (c.iC ρ)
 | .bx e z c=> .bx e z (c.iC ρ)
 | .cm id ver=>match ρ id ver with | some r=> .cm r.1 r.2 | none=> .gone
 | .yl id ver=>match ρ id ver with | some r=> .yl r.1 r.2 | none=> .gone
 | .qX k f p=> .qX k (f.iC ρ) p
 | .sH id _ k v rest cur=> .sH id 0 k v rest cur
 |v=>v
def AS.xi(s:AS)(ids:List Id)(id:Id)(ver:Nat):Option (Id×Nat):=
 match idxOf id ids,s.obj id with
 |some k,some (v,_,_)=>if v=ver then some (.bh k,0) else none
 |_,_=>none
def AS.mz(s:AS)(ids:List Id)(id:Id):dB:=
 match s.bQ id with
 |some (.obj _ fr c)=> .obj 0 fr (c.iC (s.xi ids))
 |_=> .dead
def AS.Cp(s:AS)(id:Id):Nat:=match s.obj id with | some (v,_,_)=>v | none=>0
def aT3(ids:List Id)(dst:Nat):Id->Id
 | .bh k=>ids.getD k (.bh 0)
 | .new _ j=> .new dst j
def AS.vA(s:AS)(ids:List Id)(dst:Nat):Id->Nat->Option (Id×Nat)
 | .bh k,v=>match ids[k]? with | some id=>some (id,s.Cp id+v) | none=>none
 | .new _ j,v=>some (.new dst j,v)
def AS.rV(s:AS)(ids:List Id)(dst:Nat)(ver:Nat):dB->dB
 | .obj v fr c=> .obj (ver+v) fr (c.iC (s.vA ids dst))
 | .dead=> .dead
def AS.conv(s:AS):List (Option Ty)->List aA->Out (List aA×List Id)
 |[],[]=> .ok ([],[])
 |some t::ps,v::vs=>(s.iW t v).bind λx=>(s.conv ps vs).bind λr=> .ok (.d t x::r.1,v.shared++r.2)
 |none::ps,v::vs=>(s.conv ps vs).bind λr=> .ok (v::r.1,r.2)
 |_,_=> .fail
def AS.jr(s0:AS)(all:List Id)(dst:Nat)(s:AS):List Id->List dB->AS
 |id::ids,e::es=>AS.jr s0 all dst (s.bg id (s0.rV all dst (s0.Cp id) e)) ids es
 |_,_=>s
def aA.list:aA->List aA
 | .cons a b=>a::b.list
 |_=> []
def AS.made(s:AS)(ids:List Id)(t:Nat):List dB->AS
 |[]=>s
 |e::es=>s.born t ((e::es).map (s.rV ids t 0))
def AS.back(s:AS)(ids:List Id)(dst:Option Tmp)(g:fx):Out AS:=
 match dst with
 |some t=> .guard ((g.bU.length==ids.length) && (g.news.isEmpty || s.dV t))
   (.ok ((AS.jr s ids t (s.made ids t g.news) ids g.bU).put dst (g.val.iC (s.vA ids t))))
 |none=> .guard ((g.bU.length==ids.length) && g.news.isEmpty) (.ok (AS.jr s ids 0 s ids g.bU))
def AS.ag5(s:AS)(vs:List aA):List Id:=s.reach 64 (vs.flatMap aA.ids) []
def AS.Tf(s:AS)(id:Id):Bool:=match s.obj id with | some (_,true,.mp ..)=>false | _=>true
def AS.enter(s:AS)(en:Entry)(dst:Option Tmp)(ids:List Id)(vs:List aA):Out AS:= .guard (ids.all λid=>(s.obj id).isSome && s.Tf id) (.get (en.run (vs.map (aA.iC (s.xi ids))) (ids.map (s.mz ids))) λx=>(en.sp x).bind λx=>s.back ids dst (en.out (vs.map (aA.iC (s.xi ids))) (ids.map (s.mz ids)) x))
def AS.call(s:AS)(en:Entry)(dst:Option Tmp)(vs:List aA):Out AS:=(s.conv en.params vs).bind λr=>(s.bt r.2).enter en dst ((s.bt r.2).ag5 r.1) r.1
def cD(op:BinOp)(k:IntKind)(x y:Int):Int:=
 match op with
 | .and=>k.wrap ((aZ k.bits x &&& aZ k.bits y).toNat)
 | .or=>k.wrap ((aZ k.bits x ||| aZ k.bits y).toNat)
 | .xor=>k.wrap ((aZ k.bits x^^^aZ k.bits y).toNat)
 |_=>k.wrap ((aZ k.bits x &&& ~~~aZ k.bits y).toNat)
def aKg(op:BinOp)(k:IntKind)(x:Int)(k':IntKind)(y:Int):Out aA:=
 match op with
 | .shl=> .uQ (decide (0<=y)) (.ok (.d (.int k) (k.wrap (x*2^(min y.toNat k.bits)))))
 | .shr=> .uQ (decide (0<=y)) (.ok (.d (.int k) (x.fdiv (2^(min y.toNat k.bits)))))
 |_=> .guard (decide (k=k')) (match op with
  | .add=> .ok (.d (.int k) (k.wrap (x+y)))
  | .sub=> .ok (.d (.int k) (k.wrap (x - y)))
  | .mul=> .ok (.d (.int k) (k.wrap (x*y)))
  | .quo=> .uQ (!(decide (y=0))) (.ok (.d (.int k) (k.wrap (x.tdiv y))))
  | .rem=> .uQ (!(decide (y=0))) (.ok (.d (.int k) (x.tmod y)))
  | .eql=> .ok (.d .bool (x==y))
  | .neq=> .ok (.d .bool (x !=y))
  | .lss=> .ok (.d .bool (decide (x < y)))
  | .leq=> .ok (.d .bool (decide (x<=y)))
  | .gtr=> .ok (.d .bool (decide (x > y)))
  | .geq=> .ok (.d .bool (decide (x>=y)))
  |op=> .ok (.d (.int k) (cD op k x y)))
def aNv(op:BinOp)(x y:ByteArray):Out aA:=
 match op with
 | .add=> .uQ (decide (((x.size+y.size:Nat):Int)<=IntKind.i64.max)) (.ok (.d .str (x++y)))
 | .eql=> .ok (.d .bool (x.toList==y.toList))
 | .neq=> .ok (.d .bool (!(x.toList==y.toList)))
 | .lss=> .ok (.d .bool (Op.bytesLess x.toList y.toList))
 | .geq=> .ok (.d .bool (!(Op.bytesLess x.toList y.toList)))
 |_=> .fail
def Nj(P:Program)(T:TypeId)(b:Bool):Bool:=
 match P.underlying T with | some (.struct _)=>b | some (.array _ _)=>b | some _=> !b | none=>false
def M3(P:Program)(uQ:TypeId->Ty->Bool):List Field->Ty->Nat->Bool
 |[],.unit,_=>true
 |f::fs,.pair a b,off=> !(f.name== "_") && (f.offset==off) && !(a.size==0) && (P.cellsOf f.type==a.size) && Nj P f.type a.agg && uQ f.type a && M3 P uQ fs b (off+a.size)
 |_,_,_=>false
def sE(P:Program):Nat->TypeId->Ty->Bool
 | 0,_,_=>false
 |n+1,T,t=>match P.underlying T,t with
  |some (.int _),.int _=>true
  |some .bool,.bool=>true
  |some .string,.str=>true
  |some (.array m e),.arr m' t'=>(m==m') && !(t'.size==0) && (P.cellsOf e==t'.size) && Nj P e t'.agg && sE P n e t'
  |some (.struct fs),t=> !P.stoodInHeld T && M3 P (sE P n) fs.toList t 0
  |_,_=>false
def Bo(P:Program)(T:TypeId):aA->aA->Out Bool
 | .d t x,.d t' y=>(Out.opt (u9 t' t y)).bind λy=> .guard ((t.agg && !P.eqGuardType P.depth T || decide (t= .bool)) && sE P depth T t) (.ok (t.beq x y))
 | .cV,.cV=> .guard (isSl P T) (.ok true)
 | .d (.slice t) l,.cV=> .guard (isSl P T) (.uQ (decide (0 < (l:List t.den).length)) (.ok false))
 | .cV,.d (.slice t) l=> .guard (isSl P T) (.uQ (decide (0 < (l:List t.den).length)) (.ok false))
 | .bu _ _ _ _ _ len,.cV=> .guard (isSl P T) (.uQ (decide (0 < len)) (.ok false))
 | .cV,.bu _ _ _ _ _ len=> .guard (isSl P T) (.uQ (decide (0 < len)) (.ok false))
 | .qC,.qC=> .guard (isPt P T) (.ok true)
 | .ptr ..,.qC=> .guard (isPt P T) (.ok false)
 | .qC,.ptr .. => .guard (isPt P T) (.ok false)
 | .d (.tR t) x,.qC=> .guard (isPt P T) (.ok (x:Option t.den).isNone)
 | .qC,.d (.tR t) x=> .guard (isPt P T) (.ok (x:Option t.den).isNone)
 | .xc,.xc=> .guard (isFn P T) (.ok true)
 | .fn ..,.xc=> .guard (isFn P T) (.ok false)
 | .xc,.fn .. => .guard (isFn P T) (.ok false)
 |_,_=> .fail
where
 isSl (P:Program) (T:TypeId):Bool:=match P.underlying T with | some (.slice _)=>true | _=>false
 isPt (P:Program) (T:TypeId):Bool:=match P.underlying T with | some (.pointer _)=>true | _=>false
 isFn (P:Program) (T:TypeId):Bool:=match P.underlying T with | some (.func _ _ _)=>true | _=>false
def aUL(P:Program)(T:TypeId)(op:BinOp)(x y:aA):Out aA:=
 match x,y with
 | .d (.int k) a,.d (.int k') b=>aKg op k a k' b
 | .d .str a,.d .str b=>aNv op a b
 |x,y=>match op with
  | .eql=>(Bo P T x y).bind λb=> .ok (.d .bool b)
  | .neq=>(Bo P T x y).bind λb=> .ok (.d .bool (!b))
  |_=> .fail
def baq(op:UnOp)(x:aA):Out aA:=
 match op,x with
 | .not,.d .bool b=> .ok (.d .bool (!b))
 | .neg,.d (.int k) n=> .ok (.d (.int k) (k.wrap (0 - n)))
 | .xor,.d (.int k) n=> .ok (.d (.int k) (cD .xor k (if k.signed then -1 else k.max) n))
 |_,_=> .fail
def bF(s:ByteArray):List Int:=s.data.toList.map λb=>(b.toNat:Int)
def fh(l:List Int):ByteArray:=⟨(l.map λn=>eZ n.toNat).toArray⟩
def AS.avG(s:AS)(t:Ty)(v:aA):Out t.den:=s.iW t v
def aIv(P:Program)(s:AS)(obj:Bool)(src dst:TypeId)(x:aA):Out aA:=
 match x,P.underlying dst,P.underlying src with
 | .d (.int _) n,some (.int k),some _=> .ok (.d (.int k) (k.wrap n))
 | .d .str a,some .string,some _=> .ok (.d .str a)
 | .d .str a,some (.slice e),some _=>match P.underlying e with
  |some (.int .u8)=>match obj with | true=> .ok (.sb (bF a)) | false=> .ok (.d (.slice (.int .u8)) (bF a))
  |_=> .fail
 |x,some .string,some (.slice e)=>match P.underlying e with
  |some (.int .u8)=>(s.avG (.slice (.int .u8)) x).bind λl=> .ok (.d .str (fh l))
  |_=> .fail
 |_,_,_=> .fail
def aIw(P:Program)(src dst:TypeId)(l:List Int):Out aA:=
 match P.underlying dst,P.underlying src with
 |some (.slice e),some (.slice _)=>match P.underlying e with
  |some (.int .u8)=> .guard (src==dst) (.ok (.d (.slice (.int .u8)) l))
  |_=> .fail
 |_,_=> .fail
def agq(P:Program)(s:AS)(obj:Bool)(src dst:TypeId)(x:aA):Out aA:=
 match x with
 | .sb l=>aIw P src dst l
 |x=>aIv P s obj src dst x
def anO(P:Program)(s:AS)(d:Option Tmp)(src dst:TypeId)(id:Id)(ver len:Nat):Out AS:=
 match s.obj id,P.underlying dst with
 |some (v,false,.vec _ (.int .u8) l),some (.slice e)=>match P.underlying e with
  |some (.int .u8)=> .guard ((v==ver) && (src==dst)) (.uQ (decide (0 < len/\len=(l:List Int).length)) (.ok ((s.bg id .dead).put d (.d (.slice (.int .u8)) l))))
  |_=> .fail
 |_,_=> .fail
def agr(P:Program)(s:AS)(src dst:TypeId)(id:Id)(ver:Nat):Out aA:=
 match s.obj id with
 |some (v,_,.bx e 0 c)=>match P.underlying src,P.underlying dst with
  |some (.pointer t),some .unsafePointer=> .guard ((v==ver) && !(P.cellsOf t==0) && !(c.size==0)) (.ok (.ptr id ver [] 0))
  |some .unsafePointer,some (.pointer u)=> .guard ((v==ver) && !(P.cellsOf u==0) && liesAt P P.depth e (c.size / P.cellsOf e) 0 u 1) (.ok (.ptr id ver [] 0))
  |_,_=> .fail
 |_=> .fail
def aZt(P:Program)(T:TypeId):Bool:=match P.underlying T with | some (.pointer u)=>(P.info? u).isSome | _=>false
def aXB(P:Program)(s:AS)(T:TypeId)(op:BinOp)(i:Id)(v:Nat)(j:Id)(w:Nat):Out aA:=
 match s.obj i with
 |some (v',_,_)=> .guard (decide (i=j) && (v==w) && (v==v') && aZt P T) (match op with | .eql=> .ok (.d .bool true) | .neq=> .ok (.d .bool false) | _=> .fail)
 |none=> .fail
def asb(P:Program)(s:AS)(d:Option Tmp)(T:TypeId)(id:Id)(ver:Nat)(n:Int):Out AS:=
 match s.obj id,P.underlying T with
 |some (v,false,.vec e (.int .u8) l),some (.pointer u)=> .guard ((v==ver) && (u==e) && (P.cellsOf e==1))
   (.uQ (decide (0 < n/\n<=((l:List Int).length:Int))) (.ok ((s.bg id .dead).put d (.d .str (fh ((l:List Int).take n.toNat))))))
 |_,_=> .fail
def asInt:aA->Out Int
 | .d (.int _) n=> .ok n
 |_=> .fail
def bounds(s:AS)(n:Nat)(lo hi:Option Operand):Out (Nat×Nat):=
 (match hi with
  |some h=>(asInt (s.ev h)).bind λh=> .uQ (decide (0<=h/\h<=(n:Int))) (.ok h.toNat)
  |none=> .ok n).bind λh=>
 (match lo with
  |some l=>(asInt (s.ev l)).bind λl=> .uQ (decide (0<=l/\l<=(h:Int))) (.ok l.toNat)
  |none=> .ok 0).bind λl=> .ok (l,h)
def kO(P:Program)(T:TypeId):Option Nat:=
 match P.underlying T with
 |some (.array _ e)=>match P.cellsOf e with | 0=>none | z+1=>some (z+1)
 |some (.slice e)=>match P.cellsOf e with | 0=>none | z+1=>some (z+1)
 |_=>none
def xN(P:Program)(T:TypeId):Option Nat:=
 match P.underlying T with
 |some (.array n _)=>some n
 |_=>none
def IZ(P:Program)(s:AS)(T:TypeId)(x:aA)(lo hi:Option Operand):Out aA:=
 match x with
 | .d .str a=> .guard (match P.underlying T with | some .string=>true | _=>false) ((bounds s a.size lo hi).bind λb=> .ok (.d .str (a.extract b.1 b.2)))
 | .d (.slice t) l=> .guard (match kO P T,xN P T with | some z,none=>z==t.size | _,_=>false)
   ((bounds s (l:List t.den).length lo hi).bind λb=> .ok (.d (.slice t) (cut l b.1 (b.2 - b.1))))
 | .cV=> .guard (match kO P T,xN P T with | some _,none=>true | _,_=>false) ((bounds s 0 lo hi).bind λ_=> .ok .cV)
 | .bu id ver p c i len=>(s.row id ver p).bind λr=> .guard (match kO P T,xN P T with | some z,none=>z==r.2.1.size | _,_=>false)
   ((bounds s len lo hi).bind λb=> .ok (.bu id ver p (c+b.1*r.2.1.size) (i+b.1) (b.2 - b.1)))
 | .ptr id ver p n=>(s.row id ver p).bind λr=> .guard (match kO P T,xN P T with | some z,some _=>z==r.2.1.size | _,_=>false)
   (.uQ (decide (xN P T=some r.2.2.length/\r.1=n)) ((bounds s ((xN P T).getD 0) lo hi).bind λb=> .ok (.bu id ver (p++ [.arr]) (n+b.1*r.2.1.size) b.1 (b.2 - b.1))))
 | .dL (.arr n t) l=> .guard (match kO P T,xN P T with | some z,some m=>(z==t.size) && (m==n) | _,_=>false)
   ((bounds s n lo hi).bind λb=> .ok (.d (.slice t) (cut l b.1 (b.2 - b.1))))
 |_=> .fail
def aRp:aA->Int
 | .d (.slice t) l=>((l:List t.den).length:Int)
 | .bu _ _ _ _ _ len=>(len:Int)
 | .cV=>0
 |_=> -1
def aom:Option Operand->aA->aA
 |some _,.bu id ver p c i len=> .bu id ver (p++ [.arr]) c i len
 |_,v=>v
def Re(P:Program)(s:AS)(T:TypeId)(x:aA)(lo:Option Operand)(h m:Operand):Out aA:=(asInt (s.ev h)).bind λhv=>(asInt (s.ev m)).bind λmv=> .uQ (decide (0<=hv/\hv<=mv/\mv<=aRp x)) ((IZ P s T x lo (some h)).bind λv=> .ok (aom (some m) v))
def rZ(P:Program)(s:AS)(T:TypeId)(x:aA)(i:Int):Out aA:=
 match x with
 | .d (.slice t) l=> .guard (match kO P T,xN P T with | some z,none=>z==t.size | _,_=>false)
   (.uQ (decide (0<=i/\i < ((l:List t.den).length:Int))) (.ok (.dL t (nth t l i.toNat))))
 | .dL (.arr n t) l=> .guard (match kO P T,xN P T with | some z,some m=>(z==t.size) && (m==n) | _,_=>false)
   (.uQ (decide (0<=i/\i < (n:Int))) (.ok (.dL t (nth t l i.toNat))))
 | .bu id ver p c j len=>(s.row id ver p).bind λr=> .guard (match kO P T,xN P T with | some z,none=>z==r.2.1.size | _,_=>false)
   (.uQ (decide (0<=i/\i < (len:Int))) (.ok (.ptr id ver (p++ [.idx (j+i.toNat)]) (c+i.toNat*r.2.1.size))))
 | .ptr id ver p n=> .guard (match kO P T,xN P T with | some _,some _=>true | _,_=>false)
   (.uQ (decide (0<=i/\i < (((xN P T).getD 0:Nat):Int))) (.ok (.ptr id ver (p++ [.idx i.toNat]) (n+i.toNat*(kO P T).getD 0))))
 |_=> .fail
def fieldInfo(P:Program)(T:TypeId)(f:Nat):Option (Nat×TypeId):=
 match P.underlying T with
 |some (.struct fs)=>match fs[f]? with | some x=>some (x.offset,x.type) | none=>none
 |_=>none
def partOf:aA->Nat->Option (Nat×aA)
 | .d (.pair a _) x,0=>some (0,.d a x.1)
 | .d (.pair a b) x,n+1=>match partOf (.d b x.2) n with | some (o,v)=>some (a.size+o,v) | none=>none
 | .pr a _,0=>some (0,a)
 | .pr a b,n+1=>match partOf b n with | some (o,v)=>some (a.size+o,v) | none=>none
 |_,_=>none
def ES(P:Program)(T:TypeId)(x:aA)(f:Nat):Out aA:=
 match fieldInfo P T f with
 |some (o,ft)=> .guard (!(P.cellsOf ft==0)) (match x with
  | .ptr id ver p n=> .ok (.ptr id ver (p++nK f) (n+o))
  | .dL t x=>match partOf (.d t x) f with
   |some (o',.d t' y)=> .guard (o==o') (.ok (.dL t' y))
   |_=> .fail
  | .d (.tR t) x=> .get (x:Option t.den) λx=>match partOf (.d t x) f with
   |some (o',.d t' y)=> .guard (o==o') (.ok (.dL t' y))
   |_=> .fail
  |_=> .fail)
 |none=> .fail
def ajP(P:Program)(T:TypeId)(x:aA)(f:Nat):Out aA:=
 match fieldInfo P T f,partOf x f with
 |some (o,ft),some (o',v)=> .guard ((o==o') && fits P ft v) (.ok v)
 |_,_=> .fail
def aj9(P:Program)(T:TypeId)(x:aA)(i:Int):Out aA:=
 match x,P.underlying T with
 | .d (.arr n t) l,some (.array m e)=> .guard ((n==m) && fits P e (.d t t.zero)) (.uQ (decide (0<=i/\i < (n:Int))) (.ok (.d t (nth t l i.toNat))))
 | .d .str a,some .string=> .uQ (decide (0<=i/\i < (a.size:Int))) (.ok (.d (.int .u8) ((a.data.toList.getD i.toNat 0).toNat:Int)))
 |_,_=> .fail
def aWu:aA->Out aA
 | .d (.gM t) l=> .uQ (l:Option (List t.den)).isNone (.ok .cV)
 |v=> .ok v
def P5(P:Program)(s:AS)(T:TypeId)(x:aA):Out aA:=
 match x with
 | .ptr id ver p n=>match s.obj id with
  |some (v,_,c)=> .guard (v==ver) ((loc c.strip p).bind λr=> .guard (fits P T r.2) (.uQ (decide (r.1=n)) (aWu r.2)))
  |none=> .fail
 | .dL t y=> .guard (fits P T (.d t y)) (.ok (.d t y))
 | .d (.tR t) y=> .get (y:Option t.den) λy=> .guard (fits P T (.d t y)) (.ok (.d t y))
 |_=> .fail
def I3(P:Program)(s:AS)(T:TypeId)(x v:aA):Out AS:=
 match x with
 | .ptr id ver p n=>match s.obj id with
  |some (ve,fr,c)=> .guard ((ve==ver) && !fr && fits P T v) ((loc c.strip p).bind λr=> .guard (fits P T r.2) (.uQ (decide (r.1=n)) ((xP c.strip p v).bind λc'=> .ok (s.bg id (.obj ve fr (c.wrap c'))))))
  |none=> .fail
 |_=> .fail
def aRo(P:Program)(T:TypeId)(x:aA):Out aA:=
 match P.underlying T,x with
 |some .string,.d .str a=> .ok (.d (.int .i64) (a.size:Int))
 |some (.slice _),.d (.slice t) l=> .ok (.d (.int .i64) ((l:List t.den).length:Int))
 |some (.slice _),.cV=> .ok (.d (.int .i64) (0:Int))
 |some (.slice _),.bu _ _ _ _ _ len=> .ok (.d (.int .i64) (len:Int))
 |some (.array n _),_=> .ok (.d (.int .i64) (n:Int))
 |_,_=> .fail
def HW(P:Program)(s:AS)(t:Ty)(X:TypeId)(x:aA):Out (List t.den):=
 match x with
 | .d .str a=>match P.underlying X with
  |some .string=>Out.opt (u9 (.slice (.int .u8)) (.slice t) (bF a))
  |_=> .fail
 |x=>match P.underlying X with
  |some (.slice _)=>s.avG (.slice t) x
  |_=> .fail
def cT(n b:Nat):Bool:=decide (n*b<=140737488355328/\n<=9223372036854775807)
def EP(P:Program)(nl:Bool)(T:TypeId):Option (TypeId×Ty×Nat):=
 match P.underlying T with
 |some (.slice e)=>match adD P nl depth e with
  |some t=>match(P.cellsOf e==t.size) && !(t.size==0) && ams P e (.d t t.zero) with | true=>some (e,t,P.bytesOf e) | false=>none
  |none=>none
 |_=>none
def XC(P:Program)(T:TypeId):Option (TypeId×Ty×Nat):=EP P false T
def ajH(P:Program)(T:TypeId):Option (TypeId×Ty×Nat):=
 match Nat.ble 100000 T with
 |true=>EP P true (T - 100000)
 |false=>EP P false T
def aoN(P:Program)(s:AS)(dst:Option Tmp)(T X:TypeId)(n:Int):Out AS:=
 match XC P T,dst,P.underlying X with
 |some (e,t,b),some q,some (.int _)=> .guard (s.dV q) (.uQ (decide (0 < n) && cT n.toNat b)
   (.ok ((s.born q [.obj 0 false (.vec e t (ab n.toNat t.zero))]).put dst (.bu (.new q 0) 0 [] 0 0 n.toNat))))
 |_,_,_=> .fail
def aDi(mx:Bool):List aA->Out aA
 |[.d (.int k) x,.d (.int k') y]=> .guard (decide (k=k')) (.ok (.d (.int k) (match mx with | true=>(if x < y then y else x) | false=>(if y < x then y else x))))
 |[.d (.int k) x,.d (.int k') y,.d (.int k2) z]=> .guard (decide (k=k') && decide (k=k2)) (.ok (.d (.int k) (match mx with | true=>(if(if x < y then y else x) < z then z else(if x < y then y else x)) | false=>(if z < (if y < x then y else x) then z else(if y < x then y else x)))))
 |_=> .fail
def xR(P:Program)(s:AS)(nl dt:Bool)(dst:Option Tmp)(T X:TypeId)(x y:aA):Out AS:=
 match EP P nl T,dst with
 |some (e,t,b),some q=>(HW P s t X y).bind λm=>
  match x with
  | .cV=>match dt with
   |true=> .uQ (cT m.length b && decide (0 < m.length)) (.ok (s.put dst (.d (.gM t) (some m))))
   |false=> .guard (s.dV q) (.uQ (cT m.length b) (.ok ((s.born q [.obj 0 false (.vec e t m)]).put dst (.bu (.new q 0) 0 [] 0 0 m.length))))
  | .bu id ver [] 0 0 len=>match s.obj id with
   |some (v,fr,.vec e' t' l)=> .guard ((v==ver) && (e==e')) ((Out.opt (u9 (.slice t') (.slice t) l)).bind λl=>
     .uQ (decide (len<=l.length)) <| .uQ ((!fr) || decide (len=l.length)) (.uQ (cT (len+m.length) b)
      (.ok ((s.bg id (.obj (v+1) fr (.vec e t (l.take len++m)))).put dst (.bu id (v+1) [] 0 0 (len+m.length))))))
   |_=> .fail
  |_=> .fail
 |_,_=> .fail
def Y5(P:Program)(s:AS)(dst:Option Tmp)(T X:TypeId)(x y:aA):Out AS:=
 match XC P T,x with
 |some (_,t,_),.bu id ver [.arr] 0 0 len=>(HW P s t X y).bind λm=>match s.obj id with
  |some (ve,false,.d (.arr n t') l)=> .guard ((ve==ver) && (len==n)) ((Out.opt (u9 (.slice t') (.slice t) l)).bind λl=> .uQ (decide (m.length<=n))
    (.ok ((s.bg id (.obj ve false (.d (.arr n t) (m++(l:List t.den).drop m.length)))).put dst (.d (.int .i64) (m.length:Int)))))
  |_=> .fail
 |_,_=> .fail
def jj(t:Ty)(s:AS):List (Nat×Operand)->List t.den->Out (List t.den×List Id)
 |[],l=> .ok (l,[])
 | (i,x)::ps,l=> .guard (decide (i < l.length)) ((s.iW t (s.ev x)).bind λy=>(jj t s ps (l.set i y)).bind λr=> .ok (r.1,(s.ev x).shared++r.2))
def qk(P:Program)(fs:Array Field)(s:AS):List (Nat×Operand)->aA->Out aA
 |[],v=> .ok v
 | (i,x)::ps,v=>match fs[i]?,partOf v i with
  |some f,some (o,bh)=> .guard ((f.offset==o) && fits P f.type bh && fits P f.type (s.ev x)) ((xP v (nK i) (s.ev x)).bind λv'=>qk P fs s ps v')
  |_,_=> .fail
def Hg(P:Program)(s:AS)(dst:Option Tmp)(T:TypeId)(parts:List (Nat×Operand)):Out AS:=
 match P.underlying T with
 |some (.struct fs)=>match zeroOf P depth T with
  |some z=> .guard (ams P T z && z.agg && fs.toList.all λf=>(P.info? f.type).isSome)
    ((qk P fs s parts z).bind λv=> .ok (s.put dst v))
  |none=> .fail
 |some (.array n e)=>match asB P depth e with
  |some t=> .guard ((P.cellsOf e==t.size) && ams P T (.d (.arr n t) (ab n t.zero))) ((jj t s parts (ab n t.zero)).bind λr=> .ok ((s.bt r.2).put dst (.d (.arr n t) r.1)))
  |none=> .fail
 |_=> .fail
def mu(P:Program)(s:AS)(nl obj:Bool)(dst:Option Tmp)(T:TypeId)(n:Nat)(parts:List (Nat×Operand)):Out AS:=
 match EP P nl T,dst with
 |some (e,t,_),some q=> .guard (decide (n*t.size<=16777216)) ((jj t s parts (ab n t.zero)).bind λr=>
   match obj with
   |true=> .guard (s.dV q) (.ok (((s.bt r.2).born q [.obj 0 false (.vec e t r.1)]).put dst (.bu (.new q 0) 0 [] 0 0 r.1.length)))
   |false=> .ok ((s.bt r.2).put dst (.d (.slice t) r.1)))
 |_,_=> .fail
def si(P:Program)(s:AS)(dst:Option Tmp)(T:TypeId)(len cap:Int):Out AS:=
 match XC P T,dst with
 |some (e,t,b),some q=> .guard (s.dV q) (.uQ (decide (0<=len/\len<=cap) && cT cap.toNat b)
   (.ok ((s.born q [.obj 0 false (.vec e t (ab len.toNat t.zero))]).put dst (.bu (.new q 0) 0 [] 0 0 len.toNat))))
 |_,_=> .fail
def aSK(P:Program)(T:TypeId):Bool:=
 match P.underlying T with
 |some (.struct fs)=>fs.toList.any λf=>match P.underlying f.type with | some (.pointer u)=>decide (u=T) | _=>false
 |_=>false
def boxed(P:Program)(T:TypeId)(z:aA):aA:=match aSK P T with | true=> .bx T 0 z | false=>z
def aUS(dt:Bool)(t:Ty)(x:t.den):aA:=match dt with | true=> .d (.tR t) (some x) | false=> .dL t x
def ank(P:Program)(s:AS)(obj dt:Bool)(dst:Option Tmp)(T:TypeId)(v:aA):Out AS:=
 match dst with
 |some q=>match obj with
  |true=> .guard (s.dV q && fits P T v) (.ok ((s.born q [.obj 0 false v]).put dst (.ptr (.new q 0) 0 [] 0)))
  |false=>match asB P depth T with
   |some t=> .guard (fits P T (.d t t.zero)) ((s.iW t v).bind λx=> .ok ((s.bt v.shared).put dst (aUS dt t x)))
   |none=> .fail
 |none=> .fail
def N0(P:Program)(s:AS)(dst:Option Tmp)(T:TypeId)(x:aA):Out AS:=
 match P.underlying T with
 |some (.array n e)=>match asB P depth e with
  |some t=> .guard ((P.cellsOf e==t.size) && !(n==0) && !(t.size==0)) ((s.iW (.slice t) x).bind λl=> .uQ (decide (n<=(l:List t.den).length)) (.ok ((s.bt x.shared).put dst (.dL (.arr n t) (l.take n)))))
  |none=> .fail
 |_=> .fail
def rR(s:AS):List Operand->aA
 |[]=> .nil
 |x::xs=> .cons (s.ev x) (rR s xs)
def z7:aA->Bool
 | .cons a b=>a.eL && z7 b
 | .nil=>true
 |_=>false
def azA(c a b:aA):Out aA:=
 match c with
 | .d .bool c=>match a,b with
  | .d .bool x,.d .bool y=> .ok (.d .bool (bif c then x else y))
  |a,b=> .br c (.ok a) (.ok b)
 |_=> .fail
def isObj(bI:List Nat):Option Tmp->Bool
 |some q=>bI.any λx=>decide (x=q)
 |none=>false
def aCS(bI:List Nat)(dst:Option Tmp):Bool:=isObj bI (dst.map (· +100000))
def au1(bI:List Nat)(dst:Option Tmp):Bool:=isObj bI (dst.map (· +200000))
def qD:(t:Ty)->aA->Out t.den
 |t,.d t' x=>Out.opt (u9 t' t x)
 | .slice _,.cV=> .ok []
 | .pair a b,.pr x y=>(qD a x).bind λx=>(qD b y).bind λy=> .ok (x,y)
 |_,_=> .fail
def mapOf(P:Program)(T:TypeId):Option (TypeId×TypeId×Ty×Ty):=
 match P.underlying T with
 |some (.map K V)=>match asB P depth K,asB P depth V with
  |some kt,some vt=>match sE P depth K kt && ams P V (.d vt vt.zero) with | true=>some (K,V,kt,vt) | false=>none
  |_,_=>none
 |_=>none
def iA{β:Type}(kt:Ty)(x:kt.den):List (kt.den×β)->Option Nat
 |[]=>none
 |p::l=>match kt.beq x p.1 with | true=>some 0 | false=>(iA kt x l).map (· +1)
def bZ{β:Type}(kt:Ty)(x:kt.den)(l:List (kt.den×β)):Option β:=(iA kt x l).bind λi=>(l[i]?).map (·.2)
def eJ{β:Type}(kt:Ty)(x:kt.den)(v:β)(l:List (kt.den×β)):List (kt.den×β):=
 match iA kt x l with | some i=>l.set i (x,v) | none=>l++ [(x,v)]
def fR{β:Type}(kt:Ty)(x:kt.den)(l:List (kt.den×β)):List (kt.den×β):=
 match iA kt x l with | some i=>l.eraseIdx i | none=>l
def atS(k v k' v':Ty)(l:List (k.den×v.den)):Option (List (k'.den×v'.den)):=if h:k=k'/\v=v' then some (h.1▸h.2▸l) else none
def AS.uc(s:AS)(id:Id)(ver:Nat)(kt vt:Ty):Out (List (kt.den×vt.den)):=
 match s.obj id with
 |some (v,_,.mp k' v' l)=> .guard (v==ver) (Out.opt (atS k' v' kt vt l))
 |_=> .fail
def AS.uB(s:AS)(id:Id):Bool:=match s.obj id with | some (_,fr,_)=> !fr | none=>false
def aT9(vt:Ty)(ok:Bool)(r:Option vt.den):aA:=
 match ok with
 |true=> .cons (.d vt (r.getD vt.zero)) (.cons (.d .bool r.isSome) .nil)
 |false=> .d vt (r.getD vt.zero)
def HV(P:Program)(s:AS)(dst:Option Tmp)(T:TypeId):Out AS:=
 match mapOf P T,dst with
 |some (_,_,kt,vt),some q=> .guard (s.dV q) (.ok ((s.born q [.obj 0 false (.mp kt vt [])]).put dst (.cm (.new q 0) 0)))
 |_,_=> .fail
def EY(P:Program)(s:AS)(T:TypeId)(m k:aA)(ok:Bool):Out aA:=
 match mapOf P T,m with
 |some (_,_,kt,vt),.cm id ver=>(s.uc id ver kt vt).bind λl=>(qD kt k).bind λk=> .ok (aT9 vt ok (bZ kt k l))
 |_,_=> .fail
def E3(P:Program)(s:AS)(T:TypeId)(m k v:aA):Out AS:=
 match mapOf P T,m with
 |some (_,_,kt,vt),.cm id ver=>(s.uc id ver kt vt).bind λl=>(qD kt k).bind λk=>(qD vt v).bind λv=> .guard (s.uB id) (.ok (s.bg id (.obj ver false (.mp kt vt (eJ kt k v l)))))
 |_,_=> .fail
def E2(P:Program)(s:AS)(T:TypeId)(m k:aA):Out AS:=
 match mapOf P T,m with
 |some (_,_,kt,vt),.cm id ver=>(s.uc id ver kt vt).bind λl=>(qD kt k).bind λk=> .guard (s.uB id) (.ok (s.bg id (.obj ver false (.mp kt vt (fR kt k l)))))
 |_,_=> .fail
def AS.apt(s:AS)(id:Id)(ver:Nat):Bool:=match s.obj id with | some (v,true,.mp ..)=>v==ver | _=>false
def dB.aKi(q:Id):dB->Bool
 | .obj _ _ (.sH q' ver _ _ _ _)=>decide (q'=q) && !(ver==0)
 |_=>false
def AS.abZ(s:AS)(q:Id):Bool:=s.bU.any (dB.aKi q) || s.news.any λes=>es.any (dB.aKi q)
def y4(kt vt:Ty)(l:List (kt.den×vt.den))(j:Nat):kt.den×vt.den:=l.getD j (kt.zero,vt.zero)
def awe(P:Program)(s:AS)(dst:Option Tmp)(T:TypeId)(m:aA):Out AS:=
 match mapOf P T,m,dst with
 |some (_,_,kt,vt),.cm id ver,some q=>(s.uc id ver kt vt).bind λl=> .guard (s.uB id && s.dV q)
   (.ok (((s.bg id (.obj ver true (.mp kt vt l))).born q [.obj 0 false (.sH id (ver+1) kt vt l none)]).put dst (.ptr (.new q 0) 0 [] 0)))
 |_,_,_=> .fail
structure aAA where
 i:Id
 v:Nat
 fr:Bool
 q:Id
 vr:Nat
 kt:Ty
 vt:Ty
 rest:List (kt.den×vt.den)
 cur:Option (kt.den×vt.den)
def AS.aKh(s:AS)(x:aA):Option aAA:=
 match x with
 | .ptr i ver [] 0=>match s.obj i with
  |some (v,fr,.sH q (vr+1) kt vt rest cur)=>match v==ver,s.apt q vr with
   |true,true=>some ⟨i,v,fr,q,vr,kt,vt,rest,cur⟩
   |_,_=>none
  |_=>none
 |_=>none
def auu(s:AS)(x:aA):Out aA:=
 match s.aKh x with
 |some ⟨_,_,_,_,_,kt,vt,_,some c⟩=> .ok (.cons (.d kt c.1) (.cons (.d vt c.2) .nil))
 |_=> .fail
def AS.drawn(s:AS)(t:aAA)(dst:Option Tmp)(j:Nat):AS:=(s.bg t.i (.obj t.v t.fr (.sH t.q (t.vr+1) t.kt t.vt (t.rest.eraseIdx j) (some (y4 t.kt t.vt t.rest j))))).put dst (.cons (.d .bool true) (.cons (.d t.kt (y4 t.kt t.vt t.rest j).1) (.cons (.d t.vt (y4 t.kt t.vt t.rest j).2) .nil)))
def AS.unlock(s:AS)(id:Id):AS:=match s.obj id with | some (v,_,c)=>s.bg id (.obj v false c) | none=>s
def AS.aRW(s:AS)(t:aAA)(dst:Option Tmp):Option AS:=
 match(s.bg t.i (.obj t.v t.fr (.sH t.q 0 t.kt t.vt [] none))).abZ t.q with
 |false=>some (((s.bg t.i (.obj t.v t.fr (.sH t.q 0 t.kt t.vt [] none))).unlock t.q).put dst (.cons (.d .bool false) .nil))
 |true=>none
open Classical in
def aIY{R:Type}(n:Nat)(k:Nat->Option R):Option R:=if h:∃r,0 < n/\∀j,j < n->k j=some r then some h.choose else none
open Classical in
def Zt{X R:Type}(S:X->Prop)(k:X->Option R):Option R:=if h:∃r,(∃x,S x)/\∀x,S x->k x=some r then some h.choose else none
def aLb{R:Type}(s:AS)(dst:Option Tmp)(t:aAA)(k:AS->Option R):Option R:=
 aG (decide (0 < t.rest.length)) (aIY t.rest.length λj=>k (s.drawn t dst j)) (match s.aRW t dst with | some s'=>k s' | none=>none)
def AS.azb(s:AS)(ids:List Id):Bool:=ids.all λid=>(s.obj id).isSome && s.Tf id
def AS.aJa{R:Type}(s:AS)(en:Entry)(dst:Option Tmp)(ids:List Id)(vs:List aA)(k:AS->Option R):Option R:=Zt (en.set (vs.map (aA.iC (s.xi ids))) (ids.map (s.mz ids))) λx=>((en.sp x).bind λx=>s.back ids dst (en.out (vs.map (aA.iC (s.xi ids))) (ids.map (s.mz ids)) x)).run k
def AS.ant{R:Type}(s:AS)(en:Entry)(dst:Option Tmp)(vs:List aA)(k:AS->Option R):Option R:=((s.conv en.params vs).bind λr=> .guard ((s.bt r.2).azb ((s.bt r.2).ag5 r.1)) (.ok r)).run λr=>(s.bt r.2).aJa en dst ((s.bt r.2).ag5 r.1) r.1 k
def AS.aTF{R:Type}(s:AS)(en:Entry)(dst:Option Tmp)(vs:List aA)(k:AS->Option R):Option R:=
 match en.rel with | true=>s.ant en dst vs k | false=>(s.call en dst vs).run k
def yB:Nat:=4294967296
def qB(P:Program)(Γ:om)(bI:List Nat)(o:Oper)(s:AS):Out AS:=
 match o.op with
 | .move x=> .ok (s.put o.dst (s.ev x))
 | .assign x=> .ok (s.put o.dst (s.ev x))
 | .pick c a b=>(azA (s.ev c) (s.ev a) (s.ev b)).bind λv=> .ok (s.put o.dst v)
 | .alloc T=>match zeroOf P depth T,o.dst with
  |some z,some q=> .guard (s.dV q && ams P T z) (.ok ((s.born q [.obj 0 false (boxed P T z)]).put o.dst (.ptr (.new q 0) 0 [] 0)))
  |_,_=> .fail
 | .box T x=>ank P s (isObj bI o.dst) (au1 bI o.dst) o.dst T (s.ev x)
 | .build T parts=>Hg P s o.dst T parts.toList
 | .buildSlice T n parts=>mu P s (aCS bI o.dst) (isObj bI o.dst) o.dst T n parts.toList
 | .load T x=>(P5 P s T (s.ev x)).bind λv=> .ok (s.put o.dst v)
 | .store T x v=>(I3 P s T (s.ev x) (s.ev v)).bind λs'=> .ok (s'.put o.dst .undef)
 | .nilCheck x=>match s.ev x with
  | .ptr id v p n=> .ok (s.put o.dst (.ptr id v p n))
  | .dL t y=> .ok (s.put o.dst (.dL t y))
  | .d (.tR t) y=> .get (y:Option t.den) λy=> .ok (s.put o.dst (.dL t y))
  | .fn f c=> .ok (s.put o.dst (.fn f c))
  |_=> .fail
 | .binOp op T x y _=>match s.ev x,s.ev y with
  | .ptr i v [] 0,.ptr j w [] 0=>(aXB P s T op i v j w).bind λv=> .ok (s.put o.dst v)
  |_,_=>(aUL P T op (s.ev x) (s.ev y)).bind λv=> .ok (s.put o.dst v)
 | .unOp op _ x=>(baq op (s.ev x)).bind λv=> .ok (s.put o.dst v)
 | .convert src dst x=>match src==dst,s.ev x with
  |true,.bu id ver [] 0 0 len=>anO P s o.dst src dst id ver len
  |_,.ptr id ver [] 0=>(agr P s src dst id ver).bind λv=> .ok (s.put o.dst v)
  |_,_=>(agq P s (isObj bI o.dst) src dst (s.ev x)).bind λv=> .ok (s.put o.dst v)
 | .sliceToArrayPointer T x=>N0 P s o.dst T (s.ev x)
 | .makeFunc (.func f) first caps=> .guard (first.isEmpty && z7 (rR s caps.toList)) (.ok (s.put o.dst (.fn f (rR s caps.toList))))
 | .makeSlice T l c=>(asInt (s.ev l)).bind λl=>(asInt (s.ev c)).bind λc=>si P s o.dst T l c
 | .slice T x lo hi none=>(IZ P s T (s.ev x) lo hi).bind λv=> .ok (s.put o.dst v)
 | .slice T x lo (some h) (some m)=>(Re P s T (s.ev x) lo h m).bind λv=> .ok (s.put o.dst v)
 | .fieldAddr T x f=>(ES P T (s.ev x) f).bind λv=> .ok (s.put o.dst v)
 | .field T x f=>(ajP P T (s.ev x) f).bind λv=> .ok (s.put o.dst v)
 | .indexAddr T x i=>(asInt (s.ev i)).bind λi=>(rZ P s T (s.ev x) i).bind λv=> .ok (s.put o.dst v)
 | .index T x i=>(asInt (s.ev i)).bind λi=>(aj9 P T (s.ev x) i).bind λv=> .ok (s.put o.dst v)
 | .extract x i=>(Out.opt ((s.ev x).list[i]?)).bind λv=> .ok (s.put o.dst v)
 | .makeMap T none=>HV P s o.dst T
 | .lookup T x i ok=>(EY P s T (s.ev x) (s.ev i) ok).bind λv=> .ok (s.put o.dst v)
 | .mapUpdate T m k x=>(E3 P s T (s.ev m) (s.ev k) (s.ev x)).bind λs'=> .ok (s'.put o.dst .undef)
 | .call c=>match c.callee with
  | .builtin .delete=>match c.args.toList,c.argTypes.toList with
   |[m,k],[T,_]=>(E2 P s T (s.ev m) (s.ev k)).bind λs'=> .ok (s'.put o.dst .nil)
   |_,_=> .fail
  | .builtin .copy=>match c.args.toList,c.argTypes.toList with
   |[x,y],[T,X]=>Y5 P s o.dst T X (s.ev x) (s.ev y)
   |_,_=> .fail
  | .builtin .len=>match c.args.toList,c.argTypes.toList with
   |[x],[T]=>(aRo P T (s.ev x)).bind λv=> .ok (s.put o.dst v)
   |_,_=> .fail
  | .builtin .append=>match c.args.toList,c.argTypes.toList with
   |[x,y],[T,X]=>match s.ev x,s.ev y with
    | .cV,.d (.int _) n=>aoN P s o.dst T X n
    |_,_=>xR P s (aCS bI o.dst) (au1 bI o.dst) o.dst T X (s.ev x) (s.ev y)
   |_,_=> .fail
  | .builtin .cap=>match c.args.toList,c.argTypes.toList with
   |[x],[T]=>match s.ev x,P.underlying T with
    | .cV,some (.slice _)=> .ok (s.put o.dst (.d (.int .i64) (0:Int)))
    |_,_=> .fail
   |_,_=> .fail
  | .builtin .max=>(aDi true (c.args.toList.map s.ev)).bind λv=> .ok (s.put o.dst v)
  | .builtin .min=>(aDi false (c.args.toList.map s.ev)).bind λv=> .ok (s.put o.dst v)
  | .builtin .unsafeSliceData=>match c.args.toList with
   |[x]=>match s.ev x with
    | .bu id ver [] 0 0 len=> .uQ (decide (0 < len)) (.ok (s.put o.dst (.ptr id ver [.idx 0] 0)))
    |_=> .fail
   |_=> .fail
  | .builtin .unsafeString=>match c.args.toList,c.argTypes.toList with
   |[x,y],[T,_]=>match s.ev x,s.ev y with
    | .ptr id ver [.idx 0] 0,.d (.int .i64) n=>asb P s o.dst T id ver n
    |_,_=> .fail
   |_,_=> .fail
  | .value f=>match s.ev f with
   | .fn f caps=>match Γ f (c.args.toList.map s.ev++caps.list) with
    |some en=> .guard (Nat.blt f yB) (s.call en o.dst (c.args.toList.map s.ev++caps.list))
    |none=> .fail
   |_=> .fail
  |_=> .fail
 |_=> .fail
def XV(xs:Array Operand):List Nat:=xs.toList.filterMap λ | .tmp t=>some t | _=>none
def SS(ops:Array Oper)(o:Oper):List Nat:=
 match o.guard with
 |some (j,_)=>match(ops[j]?).bind (·.dst) with | some t=> [t] | none=> []
 |none=> []
def aQI{R:Type}(P:Program)(Γ:om)(bI:List Nat)(ops:Array Oper)(o:Oper)(s:AS)(k:AS->Option R):Option R:=
 match o.guard with
 |none=>(qB P Γ bI o s).run k
 |some (j,want)=>match(ops[j]?).bind (·.dst) with
  |some q=>match s.slot q with
   | .d .bool b=>match want with
    |true=>aG b ((qB P Γ bI o (s.put (some q) (.d .bool true))).run k) (k ((s.put (some q) (.d .bool false)).put o.dst .nil))
    |false=>aG b (k ((s.put (some q) (.d .bool true)).put o.dst .nil)) ((qB P Γ bI o (s.put (some q) (.d .bool false))).run k)
   | .nil=>k (s.put o.dst .nil)
   |_=>none
  |none=>none
def aa1(s:AS)(x y:Operand):Option Nat:=
 match s.ev x,s.ev y with
 | .d (.slice t) l,.cV=>some (l:List t.den).length
 | .cV,.d (.slice t) l=>some (l:List t.den).length
 | .bu _ _ _ _ _ len,.cV=>some len
 | .cV,.bu _ _ _ _ _ len=>some len
 |_,_=>none
open Classical in
def nd{R:Type}(x y:Option R):Option R:=if x=y then x else none
def Wg:Code->List (Array Tmp×Code×Code)
 | .seq a b=>Wg a++Wg b
 | .cond _ a b=>Wg a++Wg b
 | .block _ b=>Wg b
 | .scope b=>Wg b
 | .loop b=>Wg b
 | .rangeFunc _ ps as b=> [(ps,as,b)]
 |_=> []
def bb0(fn:Func)(i y:Nat):uZ:=match fn.body with
 |some c=>match(Wg c)[i]? with
  |some x=>⟨y,x.1,x.2.1,x.2.2⟩
  |none=>⟨y,#[],.skip,.skip⟩
 |none=>⟨y,#[],.skip,.skip⟩
def qE(P:Program)(y:Nat):uZ:=match P.funcs[y%yB / 16]? with
 |some fn=>bb0 fn (y%16) y
 |none=>⟨y,#[],.skip,.skip⟩
open Classical in
def same{R:Type}(c c':uZ)(x:Option R):Option R:=if c=c' then x else none
def AS.yielded(s:AS)(F:aA)(n:Nat):Option (Id×Nat×uZ×aA):=
 match F with
 | .yl id ver=>match s.obj id with
  |some (v,false,.qX c f 0)=>match v==ver && n==c.ps.size && Nat.ble yB c.y with
   |true=>some (id,ver,c,f)
   |false=>none
  |_=>none
 |_=>none
def aUl(Γ:om)(F:aA)(vs:List aA):Option (Entry×List aA):=
 match F with
 | .fn f caps=>match Γ f (vs++caps.list) with
  |some en=>match en.rel && Nat.blt f yB with | true=>some (en,vs++caps.list) | false=>none
  |none=>none
 |_=>none
def aQJ{R:Type}(P:Program)(Γ:om)(bI:List Nat)(ops:Array Oper)(o:Oper)(s:AS)(k:AS->Option R):Option R:=
 match o.guard,o.op with
 |none,.binOp .eql T x y _=>match aa1 s x y,Bo.isSl P T with
  |some n,true=>aG (decide (0 < n)) (k (s.put o.dst (.d .bool false))) (nd (k (s.put o.dst (.d .bool true))) (k (s.put o.dst (.d .bool false))))
  |_,_=>aQI P Γ bI ops o s k
 |none,.binOp .neq T x y _=>match aa1 s x y,Bo.isSl P T with
  |some n,true=>aG (decide (0 < n)) (k (s.put o.dst (.d .bool true))) (nd (k (s.put o.dst (.d .bool true))) (k (s.put o.dst (.d .bool false))))
  |_,_=>aQI P Γ bI ops o s k
 |none,.range T m=>(awe P s o.dst T (s.ev m)).run k
 |none,.entry x=>((auu s (s.ev x)).bind λv=> .ok (s.put o.dst v)).run k
 |none,.next x false=>match s.aKh (s.ev x) with
  |some t=>aLb s o.dst t k
  |none=>none
 |none,.call c=>match c.callee with
  | .value F=>match s.yielded (s.ev F) c.args.size with
   |some (id,ver,rc,f)=>match Γ rc.y (.yl id ver::(c.args.toList.map s.ev++f.list)) with
    |some en=>same rc (qE P rc.y) ((s.call en o.dst (.yl id ver::(c.args.toList.map s.ev++f.list))).run k)
    |none=>none
   |none=>match aUl Γ (s.ev F) (c.args.toList.map s.ev) with
    |some (en,vs)=>s.ant en o.dst vs k
    |none=>aQI P Γ bI ops o s k
  |_=>aQI P Γ bI ops o s k
 |_,_=>aQI P Γ bI ops o s k
def seen{α R:Type}(l:List α):(List α->R)->R:=List.rec (motive:=λ_=>(List α->R)->R) (λk=>k []) (λx _ ih k=>ih λl'=>k (x::l')) l
theorem Q3{α R:Type}:∀(l:List α) (k:List α->R),seen l k=k l
 |[],_=>rfl
 |_::l,k=>Q3 l _
def AS.seen{R:Type}(s:AS)(k:AS->R):R:=Go.Ab.seen s.cg λl=>k ⟨l,s.bU,s.news⟩
theorem AS.Q3{R:Type}(s:AS)(k:AS->R):s.seen k=k s:=Go.Ab.Q3 _ _
def aQK{R:Type}(P:Program)(Γ:om)(bI:List Nat)(ops:Array Oper):List Oper->AS->(AS->Option R)->Option R
 |[],s,k=>k s
 |o::l,s,k=>aQJ P Γ bI ops o s λs'=>s'.seen λs'=>aQK P Γ bI ops l s' k
def aiG(acc:List Nat)(o:Oper):Nat:=(o.after.toList.filter (Region.binds .any)).foldr (λe m=>Nat.lor (Nat.lor (Nat.pow 2 e.on) (acc.getD e.on 0)) m) 0
def amL(ops:List Oper):List Nat:=ops.foldl (λacc o=>acc++ [aiG acc o]) []
structure G3 where
 dst:Option Tmp
 cg:List Nat
 rs:List Id
 ws:List Id
def ag9:Op->Bool
 | .move _=>true
 |_=>false
def ap2(s:AS)(o:Oper):List Id:=match ag9 o.op with | true=> [] | false=>(XV o.op.operands).flatMap λi=>(s.slot i).ids
def v8:List (Option Ty)->List aA->List Id
 |none::ps,v::vs=>v.ids++v8 ps vs
 |some _::ps,_::vs=>v8 ps vs
 |_,_=> []
def writes(Γ:om)(s:AS)(o:Oper):List Id:=
 match o.op with
 | .store _ x _=>(s.ev x).ids
 | .mapUpdate _ m _ _=>(s.ev m).ids
 | .convert src dst x=>match src==dst with | true=>(s.ev x).ids | false=> []
 | .call c=>match c.callee with
  | .builtin .append=>match c.args.toList with | x::_=>(s.ev x).ids | []=> []
  | .builtin .delete=>match c.args.toList with | x::_=>(s.ev x).ids | []=> []
  | .builtin .copy=>match c.args.toList with | x::_=>(s.ev x).ids | []=> []
  | .builtin .unsafeString=>match c.args.toList with | x::_=>(s.ev x).ids | []=> []
  | .value F=>match s.ev F with
   | .fn f caps=>match Γ f (c.args.toList.map s.ev++caps.list) with
    |some en=>s.reach 64 (v8 en.params (c.args.toList.map s.ev++caps.list)) []
    |none=> []
   |_=> []
  |_=> []
 |_=> []
def gG(Γ:om)(ops:Array Oper)(s:AS)(o:Oper):G3:= {dst:=o.dst,cg:=XV o.op.operands++SS ops o,rs:=ap2 s o++writes Γ s o,ws:=writes Γ s o}
def meets(xs ys:List Id):Bool:=xs.any λx=>ys.any λy=>decide (x=y)
def G3.aYQ(f g:G3):Bool:=
 match f.dst with
 |some t=>(g.cg.any λx=>decide (x=t)) || decide (g.dst=some t)
 |none=>false
def acJ(d:Option Tmp)(ids:List Id):Bool:=
 match d with
 |some q=>ids.any λx=>match x with | .new i _=>decide (i=q) | .bh _=>false
 |none=>false
def G3.indep(f g:G3):Bool:= !f.aYQ g && !g.aYQ f && !meets f.ws g.rs && !meets g.ws f.rs && !acJ f.dst g.rs && !acJ g.dst f.rs
def agO{R:Type}(P:Program)(Γ:om)(bI:List Nat)(ops:Array Oper)(anc:List Nat):Nat->List Oper->List (Nat×G3)->AS->(AS->Option R)->Option R
 |_,[],_,s,k=>k s
 |i,o::l,fs,s,k=>
  match fs.all λx=>(anc.getD i 0).testBit x.1 || x.2.indep (gG Γ ops s o) with
  |true=>aQI P Γ bI ops o s λs'=>s'.seen λs'=>agO P Γ bI ops anc (i+1) l ((i,gG Γ ops s o)::fs) s' k
  |false=>none
def ajG(ops:List Oper):Bool:=ops.zipIdx.all λx=>x.1.after.toList.all λe=> !Region.binds .any e || decide (e.on < x.2)
structure aGz where
 j:Nat
 p:List Ke
 q:Nat
 T:TypeId
structure aZS where
 j:Nat
 p:List Ke
 t:Ty
structure nZ where
 aU:List Nat:=[]
 sites:List Nat:=[]
 ayR:List Id:=[]
 data:List (Nat×Ty):=[]
 owns:List aGz:=[]
 MT:List aZS:=[]
 bah:List Nat:=[]
 aUZ:List Id:=[]
 bcy:List Nat:=[]
 bdg:List Nat:=[]
 atK:List (Nat×Nat):=[]
 aXC:Option Nat:=none
structure dA where
 X:Type
 run:AS->Option X
 out:X->Out (Exit×AS)
 set:Option (AS->X->Prop):=none
structure qJ where
 an:nZ
 X:Type
 aCR:Exit->AS->Option X
 out:X->Out (Exit×AS)
 ok:∀e s x,aCR e s=some x->(out x).eval=some (e,s)
structure wO where
 bI:List Nat:=[]
 loops:Nat->nZ:=λ_=> {}
 outs:Nat->Bool->nZ:=λ_ _=> {}
 fu:Nat->Option dA:=λ_=>none
 owns:List aGz:=[]
 trim:List Nat:=[]
 res:List (Option Ty):=[]
 MT:List aZS:=[]
 aT8:Nat->Option qJ:=λ_=>none
 ay5:Nat->Option qJ:=λ_=>none
 rf:Nat->Option (Nat×List Nat):=λ_=>none
 bc7:Nat->Option (List aGz):=λ_=>none
 lk:Option Nat:=none
 atK:List (Nat×Nat):=[]
def dI:Code->Nat
 | .region id _ _=>id
 | .seq a _=>dI a
 | .block _ b=>dI b
 | .loop b=>dI b
 | .scope b=>dI b
 | .cond _ a b=>match dI a with | 0=>dI b | n=>n
 |_=>0
def eD(aU:List Nat):Nat->List aA->List aA
 |_,[]=> []
 |i,v::vs=>(match aU.any (λx=>decide (x=i)) with | true=>v | false=> .undef)::eD aU (i+1) vs
def nL(aU:List Nat):Nat->List (List dB)->List (List dB)
 |_,[]=> []
 |i,v::vs=>(match aU.any (λx=>decide (x=i)) with | true=>v | false=> [])::nL aU (i+1) vs
def aA.head:aA->Option (Id×Nat)
 | .bu id ver [] 0 0 _=>some (id,ver)
 | .ptr id ver [] 0=>some (id,ver)
 |_=>none
def QJ(es:List dB)(b q:Nat)(i:Id)(ver:Nat):Option (Id×Nat):=
 match i with
 | .bh k=>some (.bh k,ver)
 | .new x j=>match decide (x=b) with
  |true=>(match es[j]? with | some (.obj v _ _)=>(match ver==v with | true=>some (.new q j,0) | false=>none) | _=>none)
  |false=>(match decide (x=q) with | true=>none | false=>some (.new x j,ver))
def dB.awq(ρ:Id->Nat->Option (Id×Nat)):dB->dB
 | .obj _ fr c=> .obj 0 fr (c.iC ρ)
 | .dead=> .dead
def aA.aEy(ρ:Id->Nat->Option (Id×Nat))(kp:Id->Bool):aA->aA
 | .sH q ver k v rest cur=>match kp q with | true=> .sH q ver k v rest cur | false=> .sH q 0 k v rest cur
 |c=>c.iC ρ
def dB.ae9(ρ:Id->Nat->Option (Id×Nat))(kp:Id->Bool):dB->dB
 | .obj v fr c=> .obj v fr (c.aEy ρ kp)
 | .dead=> .dead
def JW(b q:Nat):Id->Bool | .bh _=>true | .new x _=> !decide (x=b) && !decide (x=q)
def AS.IH(s:AS)(b q:Nat)(es:List dB):AS:= {cg:=s.cg.map (aA.iC (QJ es b q)),bU:=s.bU.map (dB.ae9 (QJ es b q) (JW b q)),news:=((s.news.map λes'=>es'.map (dB.ae9 (QJ es b q) (JW b q))).set b []).set q (es.map (dB.awq (QJ es b q)))}
def AS.at(s:AS)(j:Nat):List Ke->Out aA
 |[]=> .ok (s.slot j)
 |p=>match s.slot j with
  | .ptr id ver p0 _=>match s.obj id with
   |some (v,_,c)=> .guard (v==ver) ((loc c.strip (p0++p)).bind λr=> .ok r.2)
   |none=> .fail
  |_=> .fail
def AS.putAt(s:AS)(j:Nat)(v:aA):List Ke->Out AS
 |[]=> .ok (s.put (some j) v)
 |p=>match s.slot j with
  | .ptr id _ p0 _=>match s.obj id with
   |some (ver,fr,c)=>match c.strip with
    | .vec .. => .fail
    |c1=>(xP c1 (p0++p) v).bind λc'=> .ok (s.bg id (.obj ver fr (c.wrap c')))
   |none=> .fail
  |_=> .fail
def AS.still(s:AS):List Nat->AS
 |[]=>s
 |q::l=>(match s.obj (.new q 0) with | some (v,fr,.sH i ver k t r _)=>s.bg (.new q 0) (.obj v fr (.sH i ver k t r none)) | _=>s).still l
def ahu(α:Type):Setoid (List α):=⟨List.Perm,gU,List.Perm.symm,List.Perm.trans⟩
def iH{α:Type}(l:List α):List α:=(qA (Quotient.mk (ahu α) l)).choose
def AS.canon(s:AS):List Id->AS
 |[]=>s
 |id::l=>(match s.obj id with | some (v,fr,.mp k t r)=>s.bg id (.obj v fr (.mp k t (iH r))) | _=>s).canon l
def UZ(s:AS):List aZS->Out AS
 |[]=> .ok s
 |o::l=>match o.p,s.slot o.j with
  |_::_,.qC=>UZ s l
  |_,_=>(s.at o.j o.p).bind λu=>(s.iW o.t u).bind λx=>((s.bt u.shared).putAt o.j (.d o.t x) o.p).bind λs'=>UZ s' l
def Pw:(t:Ty)->t.den->Out aA
 | .gM t,x=> .uQ (x:Option (List t.den)).isNone (.ok .cV)
 | .pair a b,x=>(Pw a x.1).bind λu=>(Pw b x.2).bind λv=> .ok (Qe u v)
 |t,x=> .ok (.d t x)
def aCg(s:AS):List Nat->Out AS
 |[]=> .ok s
 |j::l=>match s.slot j with
  | .ptr id ver (.idx k::p) n=>match s.obj id with
   |some (v,false,.vec e t r)=> .guard (v==ver) (.uQ (decide (k < r.length)) ((Pw t (nth t r k)).bind λu=>
     aCg ((s.bg id (.obj v false (.bx e t.size (.pr (.d (.arr k t) (r.take k)) (.pr u (.d (.arr (r.drop (k+1)).length t) (r.drop (k+1)))))))).put (some j) (.ptr id ver (.snd:: .fst::p) n)) l))
   |_=> .fail
  | .ptr _ _ (.snd::_) _=>aCg s l
  |_=> .fail
def aN9(s:AS):List Nat->Out AS
 |[]=> .ok s
 |j::l=>match s.slot j with
  | .ptr id ver (.snd:: .fst::p) n=>match s.obj id with
   |some (v,false,.bx e z (.pr (.d (.arr k t) l1) (.pr u (.d (.arr _ t') l2))))=> .guard ((v==ver) && (z==t.size) && !(z==0) && !(u.shared.any λi=>decide (i=id)))
     ((Out.opt (u9 (.slice t') (.slice t) l2)).bind λl2=>(s.iW t u).bind λx=>
      aN9 (((s.bt u.shared).bg id (.obj v false (.vec e t (l1++x::l2)))).put (some j) (.ptr id ver (.idx k::p) n)) l)
   |_=> .fail
  |_=> .fail
def wk(P:Program)(s:AS):List aGz->Out AS
 |[]=> .ok s
 |o::l=>match o.p,s.slot o.j with
  |_::_,.qC=>wk P s l
  |_,_=>(s.at o.j o.p).bind λu=>match u with
  | .cV=>match ajH P o.T,s.dV o.q with
   |some (e,t,_),true=>((s.born o.q [.obj 0 false (.vec e t [])]).putAt o.j (.bu (.new o.q 0) 0 [] 0 0 0) o.p).bind λs'=>wk P s' l
   |_,_=> .fail
  |u=>match u.head with
   |some (.new b j,ver)=>match s.obj (.new b j),decide (o.q < s.news.length) with
    |some (v,_,_),true=>match v==ver with
     |true=>wk P (s.IH b o.q (s.news.getD b [])) l
     |false=> .fail
    |_,_=> .fail
   |_=> .fail
def ail(s:AS):List Nat->Out AS
 |[]=> .ok s
 |j::l=>match s.slot j with
  | .bu id ver [] 0 0 len=>match s.obj id with
   |some (v,false,.vec e t r)=>match v==ver with
    |true=> .uQ (decide (len<=r.length)) (ail (s.bg id (.obj v false (.vec e t (r.take len)))) l)
    |false=> .fail
   |_=> .fail
  |_=> .fail
def asData(s:AS):List (Nat×Ty)->Out AS
 |[]=> .ok s
 | (j,t)::l=>(s.iW t (s.slot j)).bind λx=>asData ((s.bt (s.slot j).shared).put (some j) (.d t x)) l
def aA.there(s:AS):aA->Bool
 | .ptr id _ _ _=>(s.obj id).isSome
 | .bu id _ _ _ _ _=>(s.obj id).isSome
 | .pr a b=>a.there s && b.there s
 | .cons a b=>a.there s && b.there s
 | .fn _ c=>c.there s
 | .bx _ _ c=>c.there s
 | .cm id _=>(s.obj id).isSome
 | .yl id _=>(s.obj id).isSome
 | .qX _ f _=>f.there s
 | .sH .. =>false
 |_=>true
def dB.there(s:AS):dB->Bool
 | .obj _ _ (.sH id _ _ _ _ _)=>(s.obj id).isSome
 | .obj _ _ c=>c.there s
 | .dead=>true
def PU(an:nZ)(s:AS):AS:= {cg:=eD an.aU 0 s.cg,bU:=s.bU,news:=nL an.sites 0 s.news}
def AS.amH(s:AS):Bool:=(s.cg.all (aA.there s)) && (s.bU.all (dB.there s)) && (s.news.all λes=>es.all (dB.there s))
def uT(k v n:Nat)(i:Id)(ver:Nat):Option (Id×Nat):=match i with
 | .bh j=>match iv j k with
  |true=>match iv ver v with | true=>some (.bh j,n) | false=>none
  |false=>some (.bh j,ver)
 |i=>some (i,ver)
def HK(k:Nat):Id->Bool | .bh j=> !iv j k | _=>true
def dB.awr(ρ:Id->Nat->Option (Id×Nat))(kp:Id->Bool):dB->dB
 | .obj v fr c=> .obj v fr (c.aEy ρ kp)
 | .dead=> .dead
def AS.aHA(s:AS)(k n:Nat):Out AS:=match s.bQ (.bh k) with
 |some (.obj v fr c)=> .guard (Nat.ble v n || Nat.ble 1 n) (.ok {cg:=s.cg.map (aA.iC (uT k v n)),bU:=(s.bU.map (dB.awr (uT k v n) (HK k))).set k (.obj n fr (c.iC (uT k v n))),news:=s.news.map λes=>es.map (dB.awr (uT k v n) (HK k))})
 |_=> .fail
def ans(s:AS):List (Nat×Nat)->Out AS
 |[]=> .ok s
 |x::l=>(s.aHA x.1 x.2).bind λs=>ans s l
def AS.aYo(s:AS):List Id:=(s.reach 64 (s.cg.flatMap aA.ids++s.bU.flatMap dB.ids) []).filter λid=>match id with | .new _ _=>true | .bh _=>false
def aCo(s:AS)(ids:List Id)(q:Nat):Id->Nat->Option (Id×Nat)
 | .bh k,ver=>some (.bh k,ver)
 | .new x y,ver=>match idxOf (.new x y) ids,s.obj (.new x y) with
  |some j,some (v,_,_)=>match ver==v with | true=>some (.new q j,0) | false=>none
  |_,_=>none
def dB.aMp(ρ:Id->Nat->Option (Id×Nat)):dB->dB
 | .obj v fr c=> .obj v fr (c.iC ρ)
 | .dead=> .dead
def AS.HA(s:AS)(ids:List Id)(q:Nat):AS:= {cg:=s.cg.map (aA.iC (aCo s ids q)),bU:=s.bU.map (dB.aMp (aCo s ids q)),news:=(s.news.map λ_=> []).set q (ids.map λid=>((s.bQ id).getD .dead).awq (aCo s ids q))}
def AS.ajU(s:AS):Option Nat->Out AS
 |none=> .ok s
 |some q=> .guard (Nat.blt q s.news.length) (.ok (s.HA s.aYo q))
def norm(P:Program)(an:nZ)(s:AS):Out AS:=(ans s an.atK).bind λs=>(aN9 (((s.bt an.ayR).still an.bah).canon an.aUZ) an.bdg).bind λs=>(UZ s an.MT).bind λs=>(asData s an.data).bind λs=> .guard (PU an s).amH ((aCg (PU an s) an.bcy).bind λs=>(wk P s an.owns).bind λs=>s.ajU an.aXC)
def Vn{R:Type}(nrm:AS->Out AS)(nrmX:Exit->AS->Out AS)(body:AS->(Exit->AS->Option R)->Option R):Nat->AS->(Exit->AS->Option R)->Option R
 | 0,_,_=>none
 |n+1,s,k=>body s λe s'=>match e with
  | .normal=>(nrm s').run λs1=>Vn nrm nrmX body n s1 k
  |e=>(nrmX e s').run (k e)
def apd:Exit->Bool | .ret=>true | _=>false
def aOb{R:Type}(le:dA)(s:AS)(k:Exit->AS->Option R):Option R:=
 match le.set with
 |none=>ak (le.run s) λx=>(le.out x).run λr=>k r.1 r.2
 |some S=>Zt (S s) λx=>(le.out x).run λr=>k r.1 r.2
def Ta{R:Type}(P:Program)(j:Option qJ)(run: {R:Type}->(Exit->AS->Option R)->Option R)(k:Exit->AS->Option R):Option R:=
 match j with
 |none=>run k
 |some j=>ak (run λe s=>(norm P j.an s).run (j.aCR e)) λx=>(j.out x).run λr=>k r.1 r.2
def lX:List aA->aA
 |[]=> .nil
 |a::l=> .cons a (lX l)
def aq9(P:Program)(h:FuncId):Bool:=match P.funcs[h]? with
 |some fn=> !(fn.name== "runtime.NumGoroutine") && fn.body.isSome
 |none=>false
def Fi{R:Type}(P:Program)(Γ:om)(an:wO)(s:AS)(f:Operand)(ps:Array Tmp)(as b:Code)(k:Exit->AS->Option R):Option R:=
 match an.lk,an.rf (ps.getD 0 0),s.ev f with
 |none,some (y,aU),.fn h caps=>match aq9 P h && s.dV (ps.getD 0 0) && Nat.blt (ps.getD 0 0) s.cg.length && Nat.blt h yB,Γ h (.yl (.new (ps.getD 0 0) 0) 0::caps.list) with
  |true,some en=>((s.born (ps.getD 0 0) [.obj 0 false (.qX ⟨y,ps,as,b⟩ (lX (eD aU 0 s.cg)) 0)]).put (some (ps.getD 0 0)) (.yl (.new (ps.getD 0 0) 0) 0)).aTF en none (.yl (.new (ps.getD 0 0) 0) 0::caps.list) λs3=>
   match s3.bQ (.new (ps.getD 0 0) 0),s3.slot (ps.getD 0 0) with
   |some (.obj 0 false (.qX _ _ p)),.yl (.new q' 0) 0=>match iv q' (ps.getD 0 0),p with
    |true,0=>k .normal ((s3.bg (.new (ps.getD 0 0) 0) .dead).put (some (ps.getD 0 0)) .undef)
    |true,2=>k .ret ((s3.bg (.new (ps.getD 0 0) 0) .dead).put (some (ps.getD 0 0)) .undef)
    |true,i+3=>k (.exit i) ((s3.bg (.new (ps.getD 0 0) 0) .dead).put (some (ps.getD 0 0)) .undef)
    |_,_=>none
   |_,_=>none
  |_,_=>none
 |_,_,_=>none
def ev(P:Program)(Γ:om)(an:wO)(N:Nat):Code-> {R:Type}->AS->(Exit->AS->Option R)->Option R
 | .skip,_,s,k=>k .normal s
 | .region id ops draw,_,s,k=>Ta P (an.aT8 id) (λk=>match draw with
  |true=>(match ajG ops.toList with
   |true=>agO P Γ an.bI ops (amL ops.toList) 0 ops.toList [] s λs'=>k .normal s'
   |false=>none)
  |false=>aQK P Γ an.bI ops ops.toList s λs'=>k .normal s') k
 | .seq a b,_,s,k=>Ta P (an.ay5 (dI b)) (λk=>ev P Γ an N a s k) λe s'=>match e with | .normal=>ev P Γ an N b s' k | e=>k e s'
 | .cond c x y,_,s,k=>match s.ev c with
  | .d .bool b=>aG b (ev P Γ an N x s k) (ev P Γ an N y s k)
  |_=>none
 | .block id b,_,s,k=>ev P Γ an N b s λe s'=>match e with | .exit i=>(match decide (i=id) with | true=>k .normal s' | false=>k (.exit i) s') | e=>k e s'
 | .loop b,_,s,k=>(norm P (an.loops (dI b)) s).run λs1=>match an.fu (dI b) with
  |some le=>aOb le s1 k
  |none=>Vn (norm P (an.loops (dI b))) (λe=>norm P (an.outs (dI b) (apd e))) (ev P Γ an N b) N s1 k
 | .scope b,_,s,k=>ev P Γ an N b s λe s'=>match e with | .goto _=>none | e=>k e s'
 | .label _,_,s,k=>k .normal s
 | .exit id,_,s,k=>k (.exit id) s
 | .ret,_,s,k=>k .ret s
 | .rangeFunc f ps as b,_,s,k=>(wk P s ((an.bc7 (ps.getD 0 0)).getD [])).run λs=>Fi P Γ an s f ps as b k
 |_,_,_,_=>none
def acb(P:Program)(s:AS):ResultVar->Out aA
 | .tmp t=> .ok (s.slot t)
 | .cell a T=>P5 P s T (s.slot a)
def aca(P:Program)(s:AS)(r:ResultVar):Option Ty->Out (AS×aA)
 |none=>(acb P s r).bind λv=> .ok (s,v)
 |some t=>(acb P s r).bind λv=>(s.iW t v).bind λx=> .ok (s.bt v.shared,.d t x)
def QM(P:Program)(s:AS):List ResultVar->List (Option Ty)->Out (AS×aA)
 |[],_=> .ok (s,.nil)
 |r::rs,ts=>(aca P s r (ts.headD none)).bind λx=> .guard x.2.eL ((QM P x.1 rs ts.tail).bind λy=> .ok (y.1,.cons x.2 y.2))
def alf(P:Program)(fn:Func)(ts:List (Option Ty))(s:AS):Out (AS×aA):=
 match fn.results.toList with
 |[r]=>aca P s r (ts.headD none)
 |rs=>QM P s rs ts
def jq:Code->List Code
 | .seq a b=>jq a++jq b
 | .cond _ a b=>jq a++jq b
 | .block _ b=>jq b
 | .scope b=>jq b
 | .loop b=>b::jq b
 |_=> []
def oM(fn:Func)(i:Nat):Code:=match fn.body with | some c=>(jq c).getD i .skip | none=> .skip
def CG(P:Program)(Γ:om)(an:wO)(N:Nat)(fn:Func)(i:Nat){R:Type}(s:AS)(kn:AS->Option R)(kx:Exit->AS->Option R):Option R:=
 ev P Γ an N (oM fn i) s λe s'=>match e with
  | .normal=>(norm P (an.loops (dI (oM fn i))) s').run kn
  |e=>(norm P (an.outs (dI (oM fn i)) (apd e)) s').run (kx e)
def Qb(P:Program)(Γ:om)(an:wO)(N:Nat)(fn:Func)(i:Nat){R:Type}(n:Nat)(s:AS)(k:Exit->AS->Option R):Option R:=Vn (norm P (an.loops (dI (oM fn i)))) (λe=>norm P (an.outs (dI (oM fn i)) (apd e))) (ev P Γ an N (oM fn i)) n s k
def Id.aT6:Id->Bool | .new _ _=>true | .bh _=>false
def AS.SO(s:AS)(v:aA):List Id:=(s.reach 64 (v.ids++s.bU.flatMap dB.ids) []).filter Id.aT6
def M5(ids:List Id):Id->Nat->Option (Id×Nat)
 | .bh k,v=>some (.bh k,v)
 |id,v=>match idxOf id ids with | some j=>some (.new 0 j,v) | none=>none
def dB.fin(ids:List Id):dB->dB
 | .obj v fr c=> .obj v fr (c.iC (M5 ids))
 | .dead=> .dead
def AS.aTJ(s:AS)(ids:List Id)(v:aA):fx:= {val:=v.iC (M5 ids),bU:=s.bU.map (dB.fin ids),news:=ids.map λid=>((s.bQ id).getD .dead).fin ids}
def AS.fin(s:AS)(v:aA):fx:=s.aTJ (s.SO v) v
def start(fn:Func)(args:List aA)(bU:List dB):AS:= {cg:=args++ab (fn.ntmps - args.length) .undef,bU,news:=ab fn.ntmps []}
def aMq(fn:Func):List Nat:=fn.results.toList.map λr=>match r with | .tmp t=>t | .cell a _=>a
def AS.drop(s:AS)(ks:List Nat):AS:= {cg:=eD ks 0 s.cg,bU:=s.bU,news:=s.news}
def finish(P:Program)(an:wO)(fn:Func)(s:AS):Out fx:=(UZ s an.MT).bind λs=>(wk P (s.drop (aMq fn)) an.owns).bind λs=>(ail s an.trim).bind λs=>(ans s an.atK).bind λs=>(alf P fn an.res s).bind λr=> .ok (r.1.fin r.2)
def aTA(P:Program)(y:Nat):Func:= {(default:Func) with body:=some (.seq (qE P y).as (qE P y).b)}
def AS.TA(s:AS)(q p:Nat):Option AS:=match s.bQ (.bh 0) with
 |some (.obj 0 false (.qX c f q'))=>(match iv q q' with | true=>some (s.bg (.bh 0) (.obj 0 false (.qX c f p))) | false=>none)
 |_=>none
def zl:List (Tmp×aA)->List aA->List aA
 |[],l=>l
 |x::xs,l=>zl xs (l.set x.1 x.2)
def acS(ps:List Tmp)(args:List aA)(bU:List dB):AS:= {cg:=zl (ps.zip (args.take ps.length)) (args.drop ps.length),bU,news:=ab (args.drop ps.length).length []}
def aTI:Exit->Option Nat
 | .normal=>some 0
 | .ret=>some 2
 | .exit i=>some (i+3)
 |_=>none
def ayN(P:Program)(an:wO)(s:AS)(v:aA):Out fx:=(UZ s an.MT).bind λs=>(wk P (s.drop []) an.owns).bind λs=>(ail s an.trim).bind λs=>(ans s an.atK).bind λs=> .ok (s.fin v)
def dB.first:dB->Bool
 | .obj v _ _=>iv v 0
 | .dead=>true
def aMM(P:Program)(Γ:om)(an:wO)(N:Nat)(c:uZ)(args:List aA)(bU:List dB){R:Type}(k:fx->Option R):Option R:=
 match args with
 | .yl (.bh 0) 0::args=>match bU.all dB.first with | false=>none | true=>ev P Γ an N c.as (acS c.ps.toList args bU) λe s=>match e with
  | .normal=>ak (s.TA 0 1) λs=>ev P Γ an N c.b s λe s=>ak (aTI e) λp=>ak (s.TA 1 p) λs=>(ayN P an s (.d .bool (iv p 0))).run k
  |_=>none
 |_=>none
def amR(P:Program)(Γ:om)(an:wO)(N:Nat)(fn:Func)(args:List aA)(bU:List dB){R:Type}(k:fx->Option R):Option R:=
 match an.lk with
 |some y=>aMM P Γ an N (qE P y) args bU k
 |none=>match fn.body with
 |some c=>match bU.all dB.first with | false=>none | true=>ev P Γ an N c (start fn args bU) λe s=>match e with
  | .normal=>(finish P an fn s).run k
  | .ret=>(finish P an fn s).run k
  |_=>none
 |none=>none
end Go.Ab
namespace Go.Ab
inductive Own where
 |dZ
 |id (i:Id)
inductive lS where
 |free
 |own (o:Own) (k:Nat)
structure Pl where
 b:Nat
 cap:Nat
structure Env where
 w:World
 g:Nat->lS
 β:Id->Option Pl
 s:Id->Option dB
def uR(g:Nat->lS)(b off:Nat):Prop:=match g b with | .free=>True | .own _ k=>off < k
def Env.has(E:Env)(b off:Nat)(v:Value):Prop:=E.w.cell? ⟨b,off,none⟩=some v/\uR E.g b off
def bz{α:Type}(R:List Value->α->Prop):List Value->List α->Prop
 |cs,[]=>cs=[]
 |cs,x::xs=>∃c cs',cs=c++cs'/\R c x/\bz R cs' xs
def FY(E:Env)(a:Option Addr)(vs:List Value):Prop:=∀i v,vs[i]? =some v->∃b off,a=some ⟨b,off,none⟩/\E.has b (off+i) v
def cW(E:Env):(t:Ty)->List Value->t.den->Prop
 | .int k,cs,x=>cs=[.int k x]
 | .bool,cs,x=>cs=[.bool x]
 | .str,cs,x=>cs=[.string x]
 | .slice t,cs,l=>∃a cap vs,cs=[.slice a (l:List t.den).length cap]/\(l:List t.den).length<=cap/\(0 < (l:List t.den).length->a.isSome=true)/\FY E a vs/\bz (cW E t) vs l
 | .unit,cs,_=>cs=[]
 | .pair a b,cs,x=>∃ca cb,cs=ca++cb/\cW E a ca x.1/\cW E b cb x.2
 | .arr n t,cs,l=>(l:List t.den).length=n/\bz (cW E t) cs l
 | .gM t,cs,x=>((x:Option (List t.den))=none->cs=[.slice none 0 0])/\∀l:List t.den,(x:Option (List t.den))=some l->
   ∃a cap vs,cs=[.slice a l.length cap]/\l.length<=cap/\(0 < l.length->a.isSome=true)/\FY E a vs/\bz (cW E t) vs l
 | .tR t,cs,x=>((x:Option t.den)=none->cs=[.pointer none])/\∀y:t.den,(x:Option t.den)=some y->
   ∃b off vs,cs=[.pointer (some ⟨b,off,none⟩)]/\FY E (some ⟨b,off,none⟩) vs/\cW E t vs y
section
variable {α:Type} {R R':List Value->α->Prop} {z:Nat}
theorem bz.mono(h:∀c x,R c x->R' c x):∀ {cs:List Value} {l:List α},bz R cs l->bz R' cs l
 |_,[],hc=>hc
 |_,_::_,⟨c,cs',e,hx,hr⟩=>⟨c,cs',e,h _ _ hx,bz.mono h hr⟩
theorem bz.length(h:∀c x,R c x->c.length=z):∀ {cs:List Value} {l:List α},bz R cs l->cs.length=l.length*z
 |cs,[],hc=>by have:cs=[]:=hc;simp[this]
 |_,x::xs,⟨c,cs',e,hx,hr⟩=>by rw[e,ai,h c x hx,bz.length h hr,az,eg,ij,Nat.add_comm]
theorem bz.all{p:Value->Prop}(h:∀c x,R c x->∀v∈c,p v):∀ {cs:List Value} {l:List α},bz R cs l->∀v∈cs,p v
 |cs,[],hc,v,hv=>by have:cs=[]:=hc;simp[this]at hv
 |_,_::_,⟨c,cs',e,hx,hr⟩,v,hv=>by
  rw[e]at hv;rcases bD.1 hv with hv | hv
  ·exact h _ _ hx v hv
  ·exact bz.all h hr v hv
theorem bz.append:∀ {cs:List Value} {l:List α} {cs':List Value} {l':List α},bz R cs l->bz R cs' l'->bz R (cs++cs') (l++l')
 |cs,[],_,_,hc,h'=>by have:cs=[]:=hc;simpa[this]using h'
 |_,x::xs,_,_,⟨c,cs1,e,hx,hr⟩,h'=>⟨c,cs1++_,by rw[e,aC],hx,bz.append hr h'⟩
theorem bz.take(h:∀c x,R c x->c.length=z):∀ {cs:List Value} {l:List α} (n:Nat),bz R cs l->bz R (cs.take (n*z)) (l.take n)
 |cs,[],n,hc=>by have:cs=[]:=hc;simp[this,bz]
 |_,x::xs,0,_=>by simp[bz]
 |_,x::xs,n+1,⟨c,cs',e,hx,hr⟩=>by refine⟨c,cs'.take (n*z),?_,hx,bz.take h n hr⟩;rw[e,pL,h c x hx,eg,ij,aW (by rw[h c x hx];omega),iE]
theorem bz.drop(h:∀c x,R c x->c.length=z):∀ {cs:List Value} {l:List α} (n:Nat),bz R cs l->bz R (cs.drop (n*z)) (l.drop n)
 |cs,[],n,hc=>by have:cs=[]:=hc;simp[this,bz]
 |_,x::xs,0,hc=>by simpa using hc
 |_,x::xs,n+1,⟨c,cs',e,hx,hr⟩=>by rw[e,jI,h c x hx,eg,ij,du (by rw[h c x hx];omega),iE];simpa using bz.drop h n hr
theorem bz.get(h:∀c x,R c x->c.length=z){cs:List Value}{l:List α}(hc:bz R cs l)(i:Nat)(hi:i < l.length):R ((cs.drop (i*z)).take z) l[i]:=by have h1:=bz.take h 1 (bz.drop h i hc);rw[ao hi]at h1;simp only[ij,List.take_succ_cons,dF]at h1;obtain⟨c,cs',e,hx,hr⟩:=h1;have:cs'=[]:=hr;rw[e,this,bj];exact hx
theorem bz.set(h:∀c x,R c x->c.length=z){cs:List Value}{l:List α}(hc:bz R cs l)(i:Nat)(hi:i < l.length){c:List Value}{x:α}(hx:R c x):
  bz R (cs.take (i*z)++c++cs.drop (i*z+c.length)) (l.set i x):=by
 rw[List.set_eq_take_append_cons_drop,if_pos hi,h c x hx];have h1:=bz.take h i hc;have h2:=bz.drop h (i+1) hc;rw[eg,ij]at h2;have h3:bz R (c++cs.drop (i*z+z)) (x::l.drop (i+1)):=⟨c,_,rfl,hx,h2⟩;rw[aC];exact bz.append h1 h3
theorem bz.one{c:List Value}{x:α}(h:R c x):bz R c [x]:=⟨c,[],by simp,h,rfl⟩
end
theorem cW.size{E:Env}:∀ {t:Ty} {cs:List Value} {x:t.den},cW E t cs x->cs.length=t.size
 | .int _,_,_,h=>by simp only[cW]at h;simp[h,Ty.size]
 | .bool,_,_,h=>by simp only[cW]at h;simp[h,Ty.size]
 | .str,_,_,h=>by simp only[cW]at h;simp[h,Ty.size]
 | .slice t,_,_,h=>by simp only[cW]at h;obtain⟨a,cap,vs,rfl,_⟩:=h;simp[Ty.size]
 | .unit,_,_,h=>by simp only[cW]at h;simp[h,Ty.size]
 | .pair a b,_,_,h=>by simp only[cW]at h;obtain⟨ca,cb,rfl,ha,hb⟩:=h;simp[Ty.size,cW.size ha,cW.size hb]
 | .arr n t,_,_,h=>by simp only[cW]at h;rw[bz.length (λc x hx=>cW.size hx) h.2,h.1,Ty.size]
 | .gM t,_,x,h=>by
  simp only[cW]at h;obtain⟨h1,h2⟩:=h;cases hx:(x:Option (List t.den)) with
  |none=>rw[h1 hx];rfl
  |some l=>obtain⟨a,cap,vs,rfl,_⟩:=h2 l hx;rfl
 | .tR t,_,x,h=>by
  simp only[cW]at h;obtain⟨h1,h2⟩:=h;cases hx:(x:Option t.den) with
  |none=>rw[h1 hx];rfl
  |some l=>obtain⟨b,off,vs,rfl,_⟩:=h2 l hx;rfl
theorem cW.one{E:Env}:∀ {t:Ty} {cs:List Value} {x:t.den},cW E t cs x->∀c∈cs,c.oneCell'=true
 | .int _,_,_,h=>by simp only[cW]at h;simp[h,Value.oneCell']
 | .bool,_,_,h=>by simp only[cW]at h;simp[h,Value.oneCell']
 | .str,_,_,h=>by simp only[cW]at h;simp[h,Value.oneCell']
 | .slice t,_,_,h=>by simp only[cW]at h;obtain⟨a,cap,vs,rfl,_⟩:=h;simp[Value.oneCell']
 | .unit,_,_,h=>by simp only[cW]at h;simp[h]
 | .pair a b,_,_,h=>by
  simp only[cW]at h;obtain⟨ca,cb,rfl,ha,hb⟩:=h;intro c hc;rcases bD.1 hc with hc | hc
  ·exact cW.one ha c hc
  ·exact cW.one hb c hc
 | .arr n t,_,_,h=>by simp only[cW]at h;exact bz.all (λc x hx=>cW.one hx) h.2
 | .gM t,_,x,h=>by
  simp only[cW]at h;obtain⟨h1,h2⟩:=h;cases hx:(x:Option (List t.den)) with
  |none=>rw[h1 hx];simp[Value.oneCell']
  |some l=>obtain⟨a,cap,vs,rfl,_⟩:=h2 l hx;simp[Value.oneCell']
 | .tR t,_,x,h=>by
  simp only[cW]at h;obtain⟨h1,h2⟩:=h;cases hx:(x:Option t.den) with
  |none=>rw[h1 hx];simp[Value.oneCell']
  |some l=>obtain⟨b,off,vs,rfl,_⟩:=h2 l hx;simp[Value.oneCell']
structure tn(E E':Env):Prop where
 has:∀b off v,E.has b off v->E'.has b off v
 fz:∀b ob,E.g b= .free->E.w.heap[b]? =some ob->E'.g b= .free/\E'.w.heap[b]? =some ob
theorem tn.refl(E:Env):tn E E:=⟨λ_ _ _ h=>h,λ_ _ h h'=>⟨h,h'⟩⟩
theorem tn.trans{E E' E'':Env}(h:tn E E')(h':tn E' E''):tn E E'':=⟨λb o v x=>h'.has b o v (h.has b o v x),λb ob h1 h2=>let⟨h3,h4⟩:=h.fz b ob h1 h2;h'.fz b ob h3 h4⟩
theorem FY.mono{E E':Env}(h:tn E E'){a:Option Addr}{vs:List Value}(hr:FY E a vs):FY E' a vs:=
 λi v hv=>let⟨b,off,ha,hh⟩:=hr i v hv;⟨b,off,ha,h.has _ _ _ hh⟩
theorem cW.mono{E E':Env}(hm:tn E E'):∀ {t:Ty} {cs:List Value} {x:t.den},cW E t cs x->cW E' t cs x
 | .int _,_,_,h=>by simpa only[cW]using h
 | .bool,_,_,h=>by simpa only[cW]using h
 | .str,_,_,h=>by simpa only[cW]using h
 | .slice t,_,_,h=>by simp only[cW]at h ⊢;obtain⟨a,cap,vs,e,hl,hs,hr,hc⟩:=h;exact⟨a,cap,vs,e,hl,hs,hr.mono hm,hc.mono λc x hx=>cW.mono hm hx⟩
 | .unit,_,_,h=>by simpa only[cW]using h
 | .pair a b,_,_,h=>by simp only[cW]at h ⊢;obtain⟨ca,cb,e,ha,hb⟩:=h;exact⟨ca,cb,e,cW.mono hm ha,cW.mono hm hb⟩
 | .arr n t,_,_,h=>by simp only[cW]at h ⊢;exact⟨h.1,h.2.mono λc x hx=>cW.mono hm hx⟩
 | .gM t,_,_,h=>by simp only[cW]at h ⊢;refine⟨h.1,λl hx=> ?_⟩;obtain⟨a,cap,vs,e,hl,hs,hr,hc⟩:=h.2 l hx;exact⟨a,cap,vs,e,hl,hs,hr.mono hm,hc.mono λc x hx=>cW.mono hm hx⟩
 | .tR t,_,_,h=>by simp only[cW]at h ⊢;refine⟨h.1,λl hx=> ?_⟩;obtain⟨b,off,vs,e,hr,hc⟩:=h.2 l hx;exact⟨b,off,vs,e,hr.mono hm,cW.mono hm hc⟩
def Env.cur(E:Env)(id:Id)(ver:Nat):Prop:=∃fr c,E.s id=some (.obj ver fr c)
def Env.F4(E:Env)(id:Id)(ver:Nat):Prop:=E.s id≠none/\∀v fr c,E.s id=some (.obj v fr c)->ver<=v
def fH(agg:Bool)(cs:List Value)(v:Value):Prop:=match agg with | true=>v= .agg cs.toArray | false=>cs=[v]
mutual
def V(E:Env):aA->List Value->Prop
 | .undef,_=>False
 | .gone,cs=>∃v,cs=[v]/\v.oneCell'=true
 | .cV,cs=>cs=[.slice none 0 0]
 | .qC,cs=>cs=[.pointer none]
 | .xc,cs=>cs=[.nilFunc]
 | .CI,cs=>cs=[.map none]
 | .sb l,cs=>∃(b cap:Nat) (arr:Array Value) (e:TypeId),cs=[.slice (some ⟨b,0,none⟩) l.length cap]/\l.length<=cap/\E.g b= .free/\E.w.heap[b]? =some (.cells arr e (arr.size,arr.size+1))/\∀(j:Nat) (v:Value),(l.map (Value.int .u8))[j]? =some v->arr[j]? =some v
 | .d t x,cs=>cW E t cs x
 | .pr a b,cs=>∃ca cb,cs=ca++cb/\V E a ca/\V E b cb
 | .ptr id ver _ n,cs=>∃a,cs=[.pointer (some a)]/\E.F4 id ver/\(E.cur id ver->∃pl,E.β id=some pl/\a=⟨pl.b,n,none⟩)
 | .dL t x,cs=>∃b off vs,cs=[.pointer (some ⟨b,off,none⟩)]/\FY E (some ⟨b,off,none⟩) vs/\cW E t vs x
 | .bu id ver p c i len,cs=>∃a cap,cs=[.slice a len cap]/\len<=cap/\(0 < len->a.isSome=true)/\E.F4 id ver/\
   (E.cur id ver->match E.β id with
    |some pl=>(0 < len\/i=0->a=some ⟨pl.b,c,none⟩)/\(p=[]->i=0->cap=pl.cap)
    |none=>a=none/\len=0/\cap=0)
 | .fn f c,cs=>∃vs,cs=[.func (.func f) #[] vs.toArray]/\VC E c vs
 | .cons _ _,_=>False
 | .nil,_=>False
 | .vec ..,_=>False
 | .bx ..,_=>False
 | .yl id ver,cs=>∃l,cs=[.func (.yield l) #[] #[]]/\E.F4 id ver/\(E.cur id ver->∃pl,E.β id=some pl/\l=pl.b)
 | .qX ..,_=>False
 | .cm id ver,cs=>∃b,cs=[.map (some b)]/\E.F4 id ver/\(E.cur id ver->∃pl,E.β id=some pl/\b=pl.b)
 | .mp ..,_ | .sH ..,_=>False
def VC(E:Env):aA->List Value->Prop
 | .nil,vs=>vs=[]
 | .cons a b,vs=>∃v vs' cs,vs=v::vs'/\V E a cs/\fH a.agg cs v/\VC E b vs'
 |_,_=>False
end
structure cJ(E E':Env):Prop where
 mem:tn E E'
 F4:∀id ver,E.F4 id ver->E'.F4 id ver
 cur:∀id ver,E.F4 id ver->E'.cur id ver->E.cur id ver/\E'.β id=E.β id
theorem cJ.refl(E:Env):cJ E E:=⟨tn.refl E,λ_ _ h=>h,λ_ _ _ h=>⟨h,rfl⟩⟩
theorem cJ.trans{E E' E'':Env}(h:cJ E E')(h':cJ E' E''):cJ E E'':=
 ⟨h.mem.trans h'.mem,λid v b=>h'.F4 id v (h.F4 id v b),λid v b c=>
  let⟨c1,e1⟩:=h'.cur id v (h.F4 id v b) c
  let⟨c2,e2⟩:=h.cur id v b c1
  ⟨c2,e1.trans e2⟩⟩
mutual
theorem V.mono{E E':Env}(h:cJ E E'):∀ {a:aA} {cs:List Value},V E a cs->V E' a cs
 | .undef,_,hv=>by simp only[V]at hv
 | .gone,_,hv=>by simpa only[V]using hv
 | .cV,_,hv=>by simpa only[V]using hv
 | .qC,_,hv=>by simpa only[V]using hv
 | .xc,_,hv=>by simpa only[V]using hv
 | .qX ..,_,hv=>by simp only[V]at hv
 | .CI,_,hv=>by simpa only[V]using hv
 | .sb l,_,hv=>by simp only[V]at hv ⊢;obtain⟨b,cap,arr,e,h1,h2,h3,h4,h5⟩:=hv;obtain⟨h6,h7⟩:=h.mem.fz b _ h3 h4;exact⟨b,cap,arr,e,h1,h2,h6,h7,h5⟩
 | .d t x,_,hv=>by simp only[V]at hv ⊢;exact hv.mono h.mem
 | .pr a b,_,hv=>by simp only[V]at hv ⊢;obtain⟨ca,cb,e,ha,hb⟩:=hv;exact⟨ca,cb,e,V.mono h ha,V.mono h hb⟩
 | .ptr id ver p n,_,hv=>by simp only[V]at hv ⊢;obtain⟨a,e,hb,hc⟩:=hv;refine⟨a,e,h.F4 _ _ hb,λc=> ?_⟩;obtain⟨c1,e1⟩:=h.cur _ _ hb c;rw[e1];exact hc c1
 | .dL t x,_,hv=>by simp only[V]at hv ⊢;obtain⟨b,off,vs,e,hr,hx⟩:=hv;exact⟨b,off,vs,e,hr.mono h.mem,hx.mono h.mem⟩
 | .bu id ver p c i len,_,hv=>by simp only[V]at hv ⊢;obtain⟨a,cap,e,hl,hs,hb,hc⟩:=hv;refine⟨a,cap,e,hl,hs,h.F4 _ _ hb,λc=> ?_⟩;obtain⟨c1,e1⟩:=h.cur _ _ hb c;rw[e1];exact hc c1
 | .fn f c,_,hv=>by simp only[V]at hv ⊢;obtain⟨vs,e,hc⟩:=hv;exact⟨vs,e,VC.mono h hc⟩
 | .cons _ _,_,hv=>by simp only[V]at hv
 | .nil,_,hv=>by simp only[V]at hv
 | .vec ..,_,hv=>by simp only[V]at hv
 | .bx ..,_,hv=>by simp only[V]at hv
 | .yl id ver,_,hv=>by simp only[V]at hv ⊢;obtain⟨b,e,hb,hc⟩:=hv;refine⟨b,e,h.F4 _ _ hb,λc=> ?_⟩;obtain⟨c1,e1⟩:=h.cur _ _ hb c;rw[e1];exact hc c1
 | .cm id ver,_,hv=>by simp only[V]at hv ⊢;obtain⟨b,e,hb,hc⟩:=hv;refine⟨b,e,h.F4 _ _ hb,λc=> ?_⟩;obtain⟨c1,e1⟩:=h.cur _ _ hb c;rw[e1];exact hc c1
 | .mp ..,_,hv | .sH ..,_,hv=>by simp only[V]at hv
theorem VC.mono{E E':Env}(h:cJ E E'):∀ {a:aA} {vs:List Value},VC E a vs->VC E' a vs
 | .nil,_,hv=>by simpa only[VC]using hv
 | .cons a b,_,hv=>by simp only[VC]at hv ⊢;obtain⟨v,vs',cs,e,ha,ho,hb⟩:=hv;exact⟨v,vs',cs,e,V.mono h ha,ho,VC.mono h hb⟩
 | .undef,_,hv=>by simp only[VC]at hv
 | .gone,_,hv=>by simp only[VC]at hv
 | .cV,_,hv=>by simp only[VC]at hv
 | .qC,_,hv=>by simp only[VC]at hv
 | .xc,_,hv=>by simp only[VC]at hv
 | .yl ..,_,hv | .qX ..,_,hv=>by simp only[VC]at hv
 | .CI,_,hv=>by simp only[VC]at hv
 | .sb _,_,hv=>by simp only[VC]at hv
 | .d t x,_,hv=>by simp only[VC]at hv
 | .pr a b,_,hv=>by simp only[VC]at hv
 | .ptr ..,_,hv=>by simp only[VC]at hv
 | .dL ..,_,hv=>by simp only[VC]at hv
 | .bu ..,_,hv=>by simp only[VC]at hv
 | .fn ..,_,hv=>by simp only[VC]at hv
 | .vec ..,_,hv=>by simp only[VC]at hv
 | .bx ..,_,hv=>by simp only[VC]at hv
 | .cm ..,_,hv=>by simp only[VC]at hv
 | .mp ..,_,hv | .sH ..,_,hv=>by simp only[VC]at hv
end
theorem V.size{E:Env}:∀ {a:aA} {cs:List Value},V E a cs->cs.length=a.size
 | .undef,_,hv=>by simp only[V]at hv
 | .gone,_,hv=>by simp only[V]at hv;obtain⟨v,rfl,_⟩:=hv;rfl
 | .cV,_,hv=>by simp only[V]at hv;rw[hv];rfl
 | .qC,_,hv=>by simp only[V]at hv;rw[hv];rfl
 | .xc,_,hv=>by simp only[V]at hv;rw[hv];rfl
 | .yl ..,_,hv=>by simp only[V]at hv;obtain⟨_,rfl,_⟩:=hv;rfl
 | .qX ..,_,hv=>by simp only[V]at hv
 | .CI,_,hv=>by simp only[V]at hv;rw[hv];rfl
 | .sb _,_,hv=>by simp only[V]at hv;obtain⟨_,_,_,_,rfl,_⟩:=hv;rfl
 | .d t x,_,hv=>by simp only[V]at hv;exact hv.size
 | .pr a b,_,hv=>by simp only[V]at hv;obtain⟨ca,cb,rfl,ha,hb⟩:=hv;simp[aA.size,V.size ha,V.size hb]
 | .ptr ..,_,hv=>by simp only[V]at hv;obtain⟨a,rfl,_⟩:=hv;rfl
 | .dL ..,_,hv=>by simp only[V]at hv;obtain⟨_,_,_,rfl,_⟩:=hv;rfl
 | .bu ..,_,hv=>by simp only[V]at hv;obtain⟨_,_,rfl,_⟩:=hv;rfl
 | .fn ..,_,hv=>by simp only[V]at hv;obtain⟨_,rfl,_⟩:=hv;rfl
 | .cons _ _,_,hv=>by simp only[V]at hv
 | .nil,_,hv=>by simp only[V]at hv
 | .vec ..,_,hv=>by simp only[V]at hv
 | .bx ..,_,hv=>by simp only[V]at hv
 | .cm ..,_,hv=>by simp only[V]at hv;obtain⟨_,rfl,_⟩:=hv;rfl
 | .mp ..,_,hv | .sH ..,_,hv=>by simp only[V]at hv
theorem V.one{E:Env}:∀ {a:aA} {cs:List Value},V E a cs->∀c∈cs,c.oneCell'=true
 | .undef,_,hv=>by simp only[V]at hv
 | .gone,_,hv=>by simp only[V]at hv;obtain⟨v,rfl,h⟩:=hv;simp[h]
 | .cV,_,hv=>by simp only[V]at hv;rw[hv];simp[Value.oneCell']
 | .qC,_,hv=>by simp only[V]at hv;rw[hv];simp[Value.oneCell']
 | .xc,_,hv=>by simp only[V]at hv;rw[hv];simp[Value.oneCell']
 | .yl ..,_,hv=>by simp only[V]at hv;obtain⟨_,rfl,_⟩:=hv;simp[Value.oneCell']
 | .qX ..,_,hv=>by simp only[V]at hv
 | .CI,_,hv=>by simp only[V]at hv;rw[hv];simp[Value.oneCell']
 | .sb _,_,hv=>by simp only[V]at hv;obtain⟨_,_,_,_,rfl,_⟩:=hv;simp[Value.oneCell']
 | .d t x,_,hv=>by simp only[V]at hv;exact hv.one
 | .pr a b,_,hv=>by
  simp only[V]at hv;obtain⟨ca,cb,rfl,ha,hb⟩:=hv;intro c hc;rcases bD.1 hc with hc | hc
  ·exact V.one ha c hc
  ·exact V.one hb c hc
 | .ptr ..,_,hv=>by simp only[V]at hv;obtain⟨a,rfl,_⟩:=hv;simp[Value.oneCell']
 | .dL ..,_,hv=>by simp only[V]at hv;obtain⟨_,_,_,rfl,_⟩:=hv;simp[Value.oneCell']
 | .bu ..,_,hv=>by simp only[V]at hv;obtain⟨_,_,rfl,_⟩:=hv;simp[Value.oneCell']
 | .fn ..,_,hv=>by simp only[V]at hv;obtain⟨_,rfl,_⟩:=hv;simp[Value.oneCell']
 | .cons _ _,_,hv=>by simp only[V]at hv
 | .nil,_,hv=>by simp only[V]at hv
 | .vec ..,_,hv=>by simp only[V]at hv
 | .bx ..,_,hv=>by simp only[V]at hv
 | .cm ..,_,hv=>by simp only[V]at hv;obtain⟨_,rfl,_⟩:=hv;simp[Value.oneCell']
 | .mp ..,_,hv | .sH ..,_,hv=>by simp only[V]at hv
theorem aA.arQ:∀ {v:aA},v.agg=false->v.size=1
 | .d (.int _) _,_ | .d .bool _,_ | .d .str _,_ | .d (.slice _) _,_ | .d (.gM _) _,_ | .d (.tR _) _,_=>rfl
 | .d .unit _,h | .d (.pair _ _) _,h | .d (.arr _ _) _,h=>by simp[aA.agg,Ty.agg]at h
 | .pr _ _,h=>by simp[aA.agg]at h
 | .undef,_ | .gone,_ | .cV,_ | .qC,_ | .xc,_ | .CI,_ | .ptr ..,_ | .dL ..,_ | .bu ..,_ | .fn ..,_ | .cons ..,_ | .nil,_ | .vec ..,_ | .sb _,_ | .bx ..,_ | .cm ..,_ | .mp ..,_ | .sH ..,_ | .yl ..,_ | .qX ..,_=>rfl
def VS(E:Env):aA->Value->Prop
 | .undef,_=>True
 | .cons a b,v=>∃vs,v= .tuple vs.toArray/\VC E (.cons a b) vs
 | .nil,v=>v= .tuple #[]
 |a,v=>∃cs,V E a cs/\fH a.agg cs v
theorem VS.mono{E E':Env}(h:cJ E E'):∀ {a:aA} {v:Value},VS E a v->VS E' a v:=by
 intro a v hv
 cases a <;> first
  |trivial
  |exact hv
  | (obtain⟨cs,h1,h2⟩:=hv;exact⟨cs,V.mono h h1,h2⟩)
  | (obtain⟨vs,e,hc⟩:=hv;exact⟨vs,e,VC.mono h hc⟩)
theorem VS.undef{E:Env}{v:Value}:VS E .undef v:=trivial
theorem VS.of{E:Env}{a:aA}{cs:List Value}{v:Value}(h:V E a cs)(ho:fH a.agg cs v):VS E a v:=by
 cases a <;> first
  | (simp only[V]at h;done)
  |exact⟨cs,h,ho⟩
theorem VS.eL{E:Env}{a:aA}{v:Value}(h:VS E a v)(hc:a.eL=true):∃cs,V E a cs/\fH a.agg cs v:=by
 cases a <;> first
  | (simp[aA.eL]at hc;done)
  |exact h
theorem VS.single{E:Env}{a:aA}{v:Value}(h:VS E a v)(hc:a.eL=true)(ha:a.agg=false):V E a [v]:=by obtain⟨cs,hv,ho⟩:=h.eL hc;rw[ha]at ho;have:cs=[v]:=ho;rw[<-this];exact hv
theorem fH.cells{agg:Bool}{cs:List Value}{v:Value}(h:fH agg cs v)(h1:∀c∈cs,c.oneCell'=true):v.cells=cs.toArray:=by
 cases agg with
 |true=>have:v= .agg cs.toArray:=h;rw[this];rfl
 |false=>
  have e:cs=[v]:=h;have:=h1 v (by simp[e]);rw[e];cases v <;> first | rfl | (simp[Value.oneCell']at this;done)
end Go.Ab
namespace Go.Ab
section
variable {α β:Type}
theorem ax{a b:α}:(Out.ok a).eval=some b↔a=b:=by simp[Out.eval]
theorem au{b:α}:(Out.fail:Out α).eval=some b↔False:=by simp[Out.eval]
theorem bM{c:Bool}{r:Out α}{b:α}:(Out.uQ c r).eval=some b↔c=true/\r.eval=some b:=by cases c <;> simp[Out.eval]
theorem aB{c:Bool}{r:Out α}{b:α}:(Out.guard c r).eval=some b↔c=true/\r.eval=some b:=by cases c <;> simp[Out.guard,Out.eval]
theorem wY{x:Option β}{f:β->Out α}{b:α}:(Out.get x f).eval=some b↔∃y,x=some y/\(f y).eval=some b:=by cases x <;> simp[Out.eval]
theorem jW{x:Option α}{b:α}:(Out.opt x).eval=some b↔x=some b:=by cases x <;> simp[Out.opt,Out.eval]
theorem ajJ(o:Out α)(f:α->Out β):(o.bind f).eval=o.eval.bind λa=>(f a).eval:=by
 induction o with
 |ok a=>rfl
 |fail=>rfl
 |uQ c r ih=>cases c <;> simp[Out.bind,Out.eval,ih]
 |get x g ih=>cases x <;> simp[Out.bind,Out.eval,ih]
 |br c x y ih1 ih2=>cases c <;> simp[Out.bind,Out.eval,ih1,ih2]
theorem av{o:Out α}{f:α->Out β}{b:β}:(o.bind f).eval=some b↔∃a,o.eval=some a/\(f a).eval=some b:=by rw[ajJ];simp[Option.bind_eq_some_iff]
theorem run_eq{R:Type}(o:Out α)(k:α->Option R):o.run k=o.eval.bind k:=by
 induction o with
 |ok a=>rfl
 |fail=>rfl
 |uQ c r ih=>cases c <;> simp[Out.run,Out.eval,aG,ih]
 |get x g ih=>cases x <;> simp[Out.run,Out.eval,ak,ih]
 |br c x y ih1 ih2=>cases c <;> simp[Out.run,Out.eval,aG,ih1,ih2]
theorem hZ{R:Type}{o:Out α}{k:α->Option R}{r:R}:o.run k=some r↔∃a,o.eval=some a/\k a=some r:=by rw[run_eq];simp[Option.bind_eq_some_iff]
end
theorem ju{t t':Ty}{x:t.den}{y:t'.den}(h:u9 t t' x=some y):∃e:t=t',e▸x=y:=by
 unfold u9 at h;split at h
 ·rename_i e;exact⟨e,by simpa using h⟩
 ·cases h
theorem bz.map{α β:Type}{R:List Value->α->Prop}{R':List Value->β->Prop}{f:α->β}(h:∀c x,R c x->R' c (f x)):∀ {cs:List Value} {l:List α},bz R cs l->bz R' cs (l.map f)
 |_,[],hc=>hc
 |_,x::xs,⟨c,cs',e,hx,hr⟩=>⟨c,cs',e,h c x hx,bz.map h hr⟩
theorem cW.aXA{E:Env}:∀(a b:Ty) (f:a.den->b.den),aep a b=some f->∀(cs:List Value) (x:a.den),cW E a cs x->cW E b cs (f x):=by
 intro a b
 induction a,b using aep.induct with
 |case1 t=>
  intro f hf cs x hx;unfold aep at hf;rw[yD rfl]at hf;obtain rfl:=bk hf;simp only[cW]at hx;obtain⟨h1,h2⟩:=hx;show cW E (.slice t) cs ((x:Option (List t.den)).getD []);simp only[cW];cases hx:(x:Option (List t.den)) with
  |none=>exact⟨none,0,[],h1 hx,aw _,λh=>absurd h (gS 0),λi v hh=>by simp at hh,rfl⟩
  |some l=>exact h2 l hx
 |case2 t t' gg=>
  intro f hf;unfold aep at hf;rw[BH gg]at hf;cases hf
 |case3 t=>
  intro f hf cs x hx;unfold aep at hf;rw[yD rfl]at hf;obtain rfl:=bk hf;simp only[cW]at hx ⊢;refine⟨λh=>(by cases h),λl hl=> ?_⟩;obtain rfl:x=l:=bk hl;exact hx
 |case4 t t' gg=>
  intro f hf;unfold aep at hf;rw[BH gg]at hf;cases hf
 |case5 a b c d f g h1 h2 ih1 ih2=>
  intro k hk cs x hx;unfold aep at hk;rw[h2,h1]at hk;obtain rfl:=bk hk;simp only[cW]at hx ⊢;obtain⟨ca,cb,e,ha,hb⟩:=hx;exact⟨ca,cb,e,ih1 f h2 ca x.1 ha,ih2 g h1 cb x.2 hb⟩
 |case6 a b c d hn ih1 ih2=>
  intro p hp;unfold aep at hp;split at hp
  ·rename_i f k h1 h2;exact(hn _ _ h1 h2).elim
  ·cases hp
 |case7 a b f h1 ih=>
  intro k hk cs x hx;unfold aep at hk;rw[h1]at hk;obtain rfl:=bk hk;simp only[cW]at hx ⊢;obtain⟨ad,cap,vs,e,hl,hs,hr,hc⟩:=hx;rw[bX];exact⟨ad,cap,vs,e,hl,hs,hr,hc.map λc x hx=>ih f h1 c x hx⟩
 |case8 a b h1 ih=>
  intro p hp;unfold aep at hp;rw[h1]at hp;cases hp
 |case9 a h1 h2 h3 h4=>
  intro f hf cs x hx;rw[aep.eq_5 _ _ h1 h2 h3 h4,yD rfl]at hf;obtain rfl:=bk hf;exact hx
 |case10 a b h1 h2 h3 h4 gg=>
  intro f hf;rw[aep.eq_5 _ _ h1 h2 h3 h4,BH gg]at hf;cases hf
theorem aQr{t t':Ty}{f:t.den->t'.den}(hp:aep t t'=some f):t.agg=t'.agg:=by
 unfold aep at hp;split at hp
 ·rfl
 ·rfl
 ·rfl
 ·rfl
 ·split at hp
  ·rename_i e;rw[e]
  ·cases hp
theorem agp{t t':Ty}{x:t.den}{y:t'.den}(h:Hm t t' x=some y):t.agg=t'.agg:=by
 unfold Hm at h;split at h
 ·rename_i z hz;obtain⟨e,_⟩:=ju hz;rw[e]
 ·split at h
  ·rename_i f hf;exact aQr hf
  ·cases h
theorem Ew{E:Env}{t t':Ty}{x:t.den}{y:t'.den}(h:Hm t t' x=some y){cs:List Value}(hx:cW E t cs x):cW E t' cs y:=by
 unfold Hm at h;split at h
 ·rename_i z hz;obtain⟨e,hz⟩:=ju hz;subst e;obtain rfl:=bk h;simp only at hz;rw[<-hz];exact hx
 ·split at h
  ·rename_i f hf;obtain rfl:=bk h;exact cW.aXA _ _ f hf cs x hx
  ·cases h
theorem aBK{E:Env}{t t':Ty}{x:List t.den}{y:List t'.den}(h:Hm (.slice t) (.slice t') x=some y):y.length=x.length/\∀vs,bz (cW E t) vs x->bz (cW E t') vs y:=by
 unfold Hm at h;split at h
 ·rename_i z hz;obtain⟨e,hz⟩:=ju hz;have e':t=t':=by simpa using e
  subst e';obtain rfl:=bk h;simp only at hz;subst hz;exact⟨rfl,λ_ h=>h⟩
 ·split at h
  ·rename_i p hp;obtain rfl:=bk h;unfold aep at hp;cases hd:aep t t' with
   |none=>rw[hd]at hp;cases hp
   |some q=>
    rw[hd]at hp;obtain rfl:=bk hp;exact⟨bX _,λvs hc=>hc.map λc x hx=>cW.aXA _ _ q hd c x hx⟩
  ·cases h
def VO(E:Env):aA->List Value->Prop
 | .vec _ t l,cs=>bz (cW E t) cs l
 |a,cs=>V E a cs
theorem VO.of{E:Env}{a:aA}{cs:List Value}(h:V E a cs):VO E a cs:=by cases a <;> first | exact h | (simp only[V]at h)
def aA.iy:aA->Bool | .vec .. =>true | .mp .. =>true | .sH .. =>true | .qX .. =>true | _=>false
theorem VO.to{E:Env}{a:aA}{cs:List Value}(h:VO E a cs)(hn:a.iy=false):V E a cs:=by cases a <;> first | exact h | (simp[aA.iy]at hn)
theorem VO.mono{E E':Env}(h:cJ E E'){a:aA}{cs:List Value}(hv:VO E a cs):VO E' a cs:=by cases a <;> first | exact V.mono h hv | exact bz.mono (λ_ _ hx=>hx.mono h.mem) hv
theorem aa2{t:Ty}{l:List t.den}{i:Nat}(h:i < l.length):nth t l i=l[i]:=by unfold nth;simp[h]
theorem abg{α:Type}(cs:List α)(n m k j:Nat)(h:k+j<=m):(((cs.drop n).take m).drop k).take j=(cs.drop (n+k)).take j:=by rw[tm,gZ,fI];congr 1;omega
theorem QS{E:Env}{t:Ty}{cs:List Value}{l:List t.den}(h:bz (cW E t) cs l){i:Nat}(hi:i < l.length):
  cW E t ((cs.drop (i*t.size)).take t.size) l[i]/\i*t.size+t.size<=cs.length:=by
 have hz:∀c x,cW E t c x->c.length=t.size:=λc x hx=>hx.size
 refine⟨h.get hz i hi,?_⟩;rw[h.length hz,<-Nat.succ_mul];exact cO _ hi
theorem sK{E:Env}:∀(p:List Ke) (c:aA) (cs:List Value) (n:Nat) (v:aA),VO E c cs->(loc c p).eval=some (n,v)->
  (n=0/\v=c)\/(V E v ((cs.drop n).take v.size)/\n+v.size<=cs.length)
 |[],c,cs,n,v,hc,h=>by left;simp only[loc,ax,cv]at h;exact⟨h.1.symm,h.2.symm⟩
 |st::p,c,cs,n,v,hc,h=>by
  by_cases ml:st= .arr
  ·subst ml;have h':(loc c p).eval=some (n,v):=by cases c <;> simpa only[loc]using h
   exact sK p c cs n v hc h'
  right;have whole:∀(c':aA) (cs':List Value) (n':Nat) (v':aA),V E c' cs'->(loc c' p).eval=some (n',v')->V E v' ((cs'.drop n').take v'.size)/\n'+v'.size<=cs'.length:=by
   intro c' cs' n' v' hc' hl;rcases sK p c' cs' n' v' (VO.of hc') hl with⟨rfl,rfl⟩ | hh
   ·have:=hc'.size;rw[aF,aW (by omega)];exact⟨hc',by omega⟩
   ·exact hh
  have second:∀(a b:aA) (ca cb:List Value),cs=ca++cb->ca.length=a.size->V E b cb->((loc b p).bind λ(n,v)=>Out.ok (a.size+n,v)).eval=some (n,v)->
    V E v ((cs.drop n).take v.size)/\n+v.size<=cs.length:=by
   intro a b ca cb e hl hb hh;obtain⟨⟨n',v'⟩,h1,h2⟩:=av.1 hh;simp only[ax,cv]at h2;obtain⟨rfl,rfl⟩:=h2;obtain⟨h3,h4⟩:=whole b cb n' v' hb h1;subst e;rw[<-hl,jI,du (by omega),aR,Nat.add_sub_cancel_left];exact⟨h3,by simp only[ai];omega⟩
  have elem:∀(t:Ty) (l:List t.den) (i:Nat),bz (cW E t) cs l->(Out.uQ (decide (i < l.length)) ((loc (.d t (nth t l i)) p).bind λ(n,v)=>Out.ok (i*t.size+n,v))).eval=some (n,v)->
    V E v ((cs.drop n).take v.size)/\n+v.size<=cs.length:=by
   intro t l i vY hh;obtain⟨hi,hh⟩:=bM.1 hh;have hi:i < l.length:=by simpa using hi
   obtain⟨⟨n',v'⟩,h1,h2⟩:=av.1 hh;simp only[ax,cv]at h2;obtain⟨rfl,rfl⟩:=h2;obtain⟨hp,hle⟩:=QS vY hi;rw[aa2 hi]at h1;have hv:V E (.d t l[i]) ((cs.drop (i*t.size)).take t.size):=by simpa only[V]using hp
   obtain⟨h3,h4⟩:=whole _ _ n' v' hv h1;have hlen:((cs.drop (i*t.size)).take t.size).length=t.size:=hp.size;rw[abg _ _ _ _ _ (by omega)]at h3;exact⟨h3,by omega⟩
  cases c with
  |pr a b=>
   simp only[VO,V]at hc;obtain⟨ca,cb,e,ha,hb⟩:=hc;cases st with
   |arr=>exact absurd rfl ml
   |fst=>
    simp only[loc]at h;obtain⟨h3,h4⟩:=whole a ca n v ha h;subst e;refine⟨?_,by simp only[ai];omega⟩;rw[jI,pL,di,kg (by omega:v.size<=ca.length - n),dF,bj];exact h3
   |snd=>simp only[loc]at h;exact second a b ca cb e ha.size hb h
   |idx i=>simp only[loc,au]at h
  |d t x=>
   simp only[VO,V]at hc;cases t with
   |pair ta tb=>
    simp only[cW]at hc;obtain⟨ca,cb,e,ha,hb⟩:=hc;cases st with
    |arr=>exact absurd rfl ml
    |fst=>
     simp only[loc]at h;obtain⟨h3,h4⟩:=whole (.d ta x.1) ca n v (by simpa only[V]using ha) h;subst e;refine⟨?_,by simp only[ai];omega⟩;rw[jI,pL,di,kg (by omega:v.size<=ca.length - n),dF,bj];exact h3
    |snd=>simp only[loc]at h;exact second (.d ta x.1) (.d tb x.2) ca cb e ha.size (by simpa only[V]using hb) h
    |idx i=>simp only[loc,au]at h
   |arr m t=>
    simp only[cW]at hc;cases st with
    |arr=>exact absurd rfl ml
    |idx i=>simp only[loc]at h;exact elem t x i hc.2 h
    |fst=>simp only[loc,au]at h
    |snd=>simp only[loc,au]at h
   |_=>cases st <;> first | exact absurd rfl ml | (simp only[loc,au]at h)
  |vec e t l=>
   simp only[VO]at hc;cases st with
   |arr=>exact absurd rfl ml
   |idx i=>simp only[loc]at h;exact elem t l i hc h
   |fst=>simp only[loc,au]at h
   |snd=>simp only[loc,au]at h
  |_=>cases st <;> first | exact absurd rfl ml | (simp only[loc,au]at h)
theorem as5{E:Env}{a b:aA}{ca cb:List Value}(ha:V E a ca)(hb:V E b cb):V E (Qe a b) (ca++cb):=by
 have gen:V E (.pr a b) (ca++cb):=by simp only[V];exact⟨ca,cb,rfl,ha,hb⟩
 unfold Qe;split
 ·simp only[V]at ha hb ⊢;simp only[cW];exact⟨ca,cb,rfl,ha,hb⟩
 ·exact gen
theorem Vy(a b:aA):(Qe a b).iy=false:=by unfold Qe;split <;> rfl
def dq(cs:List Value)(n:Nat)(vs:List Value):List Value:=cs.take n++vs++cs.drop (n+vs.length)
theorem aw8{cs vs:List Value}(h:cs.length=vs.length):dq cs 0 vs=vs:=by simp[dq,du (by omega:cs.length<=vs.length)]
theorem Ck{ca cb vs:List Value}{n:Nat}(h:n+vs.length<=ca.length):dq (ca++cb) n vs=dq ca n vs++cb:=by unfold dq;rw[pL,jI,kg (by omega:n<=ca.length),dF,bj,kg h,aF];simp only[aC]
theorem Rh{ca cb vs:List Value}{n:Nat}:dq (ca++cb) (ca.length+n) vs=ca++dq cb n vs:=by unfold dq;rw[pL,aW (by omega),Nat.add_sub_cancel_left,jI,du (by omega),aR];simp only[aC];congr 4;omega
theorem aw9{cs vs:List Value}{i z n:Nat}(hz:i+z<=cs.length)(h:n+vs.length<=z):
  dq cs (i+n) vs=cs.take i++dq ((cs.drop i).take z) n vs++cs.drop (i+z):=by
 have e:cs=cs.take i++((cs.drop i).take z++cs.drop (i+z)):=by rw[<-fI,dE,dE]
 have hl:(cs.take i).length=i:=by simp;omega
 have hm:((cs.drop i).take z).length=z:=by simp;omega
 conv=>lhs;rw[e,show i+n=(cs.take i).length+n by rw[hl]]
 rw[Rh,Ck (by omega)];simp only[aC]
theorem jE{cs vs:List Value}{n:Nat}(h:n+vs.length<=cs.length):(dq cs n vs).length=cs.length:=by simp[dq];omega
def lU:aA->aA->Prop
 | .vec e t l,.vec e' t' l'=>e'=e/\t'=t/\l'.length=l.length
 | .vec ..,_=>False
 |_,.vec .. =>False
 | .mp ..,_ | .sH ..,_ | .qX ..,_=>False
 |_,.mp .. | _,.sH .. | _,.qX .. =>False
 |_,_=>True
theorem lU.uf{a b:aA}(h:lU a b)(ha:a.iy=false):b.iy=false:=by
 cases b <;> first
  |rfl
  | (cases a <;> first | (simp[aA.iy]at ha;done) | exact h.elim)
theorem lU.of{a b:aA}(ha:a.iy=false)(hb:b.iy=false):lU a b:=by
 cases a <;> first
  | (simp[aA.iy]at ha;done)
  | (cases b <;> first | trivial | (simp[aA.iy]at hb;done))
theorem V.uf{E:Env}{a:aA}{cs:List Value}(h:V E a cs):a.iy=false:=by cases a <;> first | rfl | (simp only[V]at h)
theorem qs{E:Env}:∀(p:List Ke) (c:aA) (cs:List Value) (n:Nat) (o v c':aA) (vs:List Value),VO E c cs->(loc c p).eval=some (n,o)->V E v vs->
  (xP c p v).eval=some c'->n+vs.length<=cs.length/\VO E c' (dq cs n vs)/\
   lU c c'
 |[],c,cs,n,o,v,c',vs,hc,hl,hv,h=>by
  simp only[loc,ax,cv]at hl;obtain⟨rfl,rfl⟩:=hl
  have main:∀(aY0:c.iy=false),(Out.guard (v.eL && (c.size==v.size)) (.ok v)).eval=some c'->0+vs.length<=cs.length/\VO E c' (dq cs 0 vs)/\
   lU c c':=by
   intro aY0 hg;obtain⟨h1,h2⟩:=aB.1 hg;obtain rfl:=ax.1 h2;simp only[aq,dp]at h1;have e1:=(hc.to aY0).size;have e2:=hv.size;refine⟨by omega,?_,?_⟩
   ·rw[aw8 (by omega)];exact VO.of hv
   ·exact lU.of aY0 hv.uf
  cases c with
  |vec e t l=>simp only[xP,au]at h
  |mp k v l=>simp only[xP,au]at h
  |sH q ver k v rest cur=>simp only[xP,au]at h
  |qX k f p=>simp only[xP,au]at h
  |_=>exact main rfl (by simpa only[xP]using h)
 |st::p,c,cs,n,o,v,c',vs,hc,hl,hv,h=>by
  by_cases ml:st= .arr
  ·subst ml;have hl':(loc c p).eval=some (n,o):=by cases c <;> simpa only[loc]using hl
   have h':(xP c p v).eval=some c':=by cases c <;> simpa only[xP]using h
   exact qs p c cs n o v c' vs hc hl' hv h'
  have left:∀(a b:aA) (ca cb:List Value),cs=ca++cb->V E a ca->V E b cb->(loc a p).eval=some (n,o)->((xP a p v).bind λa'=>Out.ok (Qe a' b)).eval=some c'->
    n+vs.length<=cs.length/\VO E c' (dq cs n vs)/\c'.iy=false:=by
   intro a b ca cb e ha hb hl hh;obtain⟨a',h1,h2⟩:=av.1 hh;obtain rfl:=ax.1 h2;obtain⟨h3,h4,h5⟩:=qs p a ca n o v a' vs (VO.of ha) hl hv h1;subst e;refine⟨by simp only[ai];omega,?_,Vy _ _⟩;rw[Ck h3];have baP:a'.iy=false:=h5.uf ha.uf;exact VO.of (as5 (h4.to baP) hb)
  have right:∀(a b:aA) (ca cb:List Value),cs=ca++cb->ca.length=a.size->V E a ca->V E b cb->((loc b p).bind λ(n,v)=>Out.ok (a.size+n,v)).eval=some (n,o)->
    ((xP b p v).bind λb'=>Out.ok (Qe a b')).eval=some c'->n+vs.length<=cs.length/\VO E c' (dq cs n vs)/\c'.iy=false:=by
   intro a b ca cb e aJD ha hb hl hh;obtain⟨⟨n',v'⟩,h1,h2⟩:=av.1 hl;simp only[ax,cv]at h2;obtain⟨rfl,rfl⟩:=h2;obtain⟨b',h3,h4⟩:=av.1 hh;obtain rfl:=ax.1 h4;obtain⟨h5,h6,h7⟩:=qs p b cb n' v' v b' vs (VO.of hb) h1 hv h3;subst e;refine⟨by simp only[ai];omega,?_,Vy _ _⟩;rw[<-aJD,Rh];have baP:b'.iy=false:=h7.uf hb.uf;exact VO.of (as5 ha (h6.to baP))
  have elem:∀(t:Ty) (l:List t.den) (i:Nat) (mk:List t.den->aA),bz (cW E t) cs l->(Out.uQ (decide (i < l.length)) ((loc (.d t (nth t l i)) p).bind λ(n,v)=>Out.ok (i*t.size+n,v))).eval=some (n,o)->
    (Out.uQ (decide (i < l.length)) ((xP (.d t (nth t l i)) p v).bind fun
     | .d t' y=>(Out.opt (u9 t' t y)).bind λy=> .ok (mk (l.set i y))
     |_=> .fail)).eval=some c'->
    n+vs.length<=cs.length/\∃l',c'=mk l'/\l'.length=l.length/\bz (cW E t) (dq cs n vs) l':=by
   intro t l i mk vY hl hh;obtain⟨hi,hl⟩:=bM.1 hl;have hi:i < l.length:=by simpa using hi
   obtain⟨⟨n',v'⟩,h1,h2⟩:=av.1 hl;simp only[ax,cv]at h2;obtain⟨rfl,rfl⟩:=h2;obtain⟨_,hh⟩:=bM.1 hh;obtain⟨w,h3,h4⟩:=av.1 hh;obtain⟨hp,hle⟩:=QS vY hi;rw[aa2 hi]at h1 h3;have aV0:V E (.d t l[i]) ((cs.drop (i*t.size)).take t.size):=by simpa only[V]using hp
   have hlen:((cs.drop (i*t.size)).take t.size).length=t.size:=hp.size;obtain⟨h5,h6,h7⟩:=qs p _ _ n' v' v w vs (VO.of aV0) h1 hv h3;cases w with
   |d t' y=>
    simp only at h4;obtain⟨y',h8,h9⟩:=av.1 h4;obtain⟨rfl,h8⟩:=ju (jW.1 h8);simp only at h8;subst h8;obtain rfl:=ax.1 h9;refine⟨by omega,_,rfl,by simp,?_⟩;have hy:cW E t' (dq ((cs.drop (i*t'.size)).take t'.size) n' vs) y:=by simpa only[VO,V]using h6
    have:=bz.set (λc x hx=>cW.size hx) vY i hi hy;rw[aw9 (by omega:i*t'.size+t'.size<=cs.length) (by omega)];rwa[hy.size]at this
   |_=>simp only[au]at h4
  cases c with
  |pr a b=>
   simp only[VO,V]at hc;obtain⟨ca,cb,e,ha,hb⟩:=hc;cases st with
   |arr=>exact absurd rfl ml
   |fst=>
    simp only[loc]at hl;simp only[xP]at h;obtain⟨r1,r2,r3⟩:=left a b ca cb e ha hb hl h;exact⟨r1,r2,lU.of rfl r3⟩
   |snd=>
    simp only[loc]at hl;simp only[xP]at h;obtain⟨r1,r2,r3⟩:=right a b ca cb e ha.size ha hb hl h;exact⟨r1,r2,lU.of rfl r3⟩
   |idx i=>simp only[loc,au]at hl
  |d t x=>
   simp only[VO,V]at hc;cases t with
   |pair ta tb=>
    simp only[cW]at hc;obtain⟨ca,cb,e,ha,hb⟩:=hc;have ha':V E (.d ta x.1) ca:=by simpa only[V]using ha
    have hb':V E (.d tb x.2) cb:=by simpa only[V]using hb
    cases st with
    |arr=>exact absurd rfl ml
    |fst=>
     simp only[loc]at hl;simp only[xP]at h;obtain⟨r1,r2,r3⟩:=left _ _ ca cb e ha' hb' hl h;exact⟨r1,r2,lU.of rfl r3⟩
    |snd=>
     simp only[loc]at hl;simp only[xP]at h;obtain⟨r1,r2,r3⟩:=right (.d ta x.1) (.d tb x.2) ca cb e ha.size ha' hb' hl h;exact⟨r1,r2,lU.of rfl r3⟩
    |idx i=>simp only[loc,au]at hl
   |arr m t=>
    simp only[cW]at hc;cases st with
    |arr=>exact absurd rfl ml
    |idx i=>
     simp only[loc]at hl;simp only[xP]at h;obtain⟨r1,l',e,r2,r3⟩:=elem t x i (λl=> .d (.arr m t) l) hc.2 hl h;subst e;refine⟨r1,?_,trivial⟩;simp only[VO,V,cW];exact⟨by rw[r2];exact hc.1,r3⟩
    |fst=>simp only[loc,au]at hl
    |snd=>simp only[loc,au]at hl
   |_=>cases st <;> first | exact absurd rfl ml | (simp only[loc,au]at hl)
  |vec e t l=>
   simp only[VO]at hc;cases st with
   |arr=>exact absurd rfl ml
   |idx i=>
    simp only[loc]at hl;simp only[xP]at h;obtain⟨r1,l',e',r2,r3⟩:=elem t l i (λl=> .vec e t l) hc hl h;subst e';exact⟨r1,by simpa only[VO]using r3,rfl,rfl,r2⟩
   |fst=>simp only[loc,au]at hl
   |snd=>simp only[loc,au]at hl
  |_=>cases st <;> first | exact absurd rfl ml | (simp only[loc,au]at hl)
end Go.Ab
namespace Go.Ab
def aX8(E:Env)(id:Id)(fr:Bool)(e:TypeId)(t:Ty)(l:List t.den):Prop:=
 0 < t.size/\match E.β id with
  |none=>l=[]
  |some pl=>∃cur k,E.w.heap[pl.b]? =some (.cells cur e (0,0))/\cur.size=pl.cap*t.size/\l.length<=pl.cap/\pl.cap<=maxLen/\E.g pl.b= .own (.id id) k/\
    k<=l.length*t.size/\(fr=false->k=0)/\bz (cW E t) (cur.toList.take (l.length*t.size)) l
def aA.Hf:aA->Pl->Nat->TypeId->Prop
 | .bx e' 0 _,_,_,e=>e=e'
 | .bx e' (z+1) c,pl,n,e=>e=e'/\n=pl.cap*(z+1)/\pl.cap<=maxLen/\c.size<=n
 |_,_,_,_=>True
def aA.xv:aA->Nat->Nat
 | .bx _ (_+1) c,_=>c.size
 |_,n=>n
def aA.aet:aA->Bool | .bx .. =>true | _=>false
theorem V.AG{E:Env}{a:aA}{cs:List Value}(h:V E a cs):a.aet=false:=by cases a <;> first | rfl | (simp only[V]at h)
theorem T6{c:aA}(h:c.aet=false):c.strip=c:=by cases c <;> first | rfl | (simp[aA.aet]at h)
theorem Sv{c:aA}(h:c.aet=false)(pl:Pl)(n:Nat)(e:TypeId):c.Hf pl n e:=by cases c <;> first | trivial | (simp[aA.aet]at h)
theorem YI{c:aA}(h:c.aet=false)(n:Nat):c.xv n=n:=by cases c <;> first | rfl | (simp[aA.aet]at h)
theorem NY(c:aA){c':aA}(h:c'.aet=false):(c.wrap c').strip=c':=by cases c <;> first | rfl | exact T6 h
theorem Mu{c c':aA}{pl:Pl}{n:Nat}{e:TypeId}(hc:c.Hf pl n e)(h:c'.aet=false)(hs:c'.size=c.strip.size):(c.wrap c').Hf pl n e:=by
 cases c with
 |bx e' z c=>cases z with
  |zero=>exact hc
  |succ z=>exact⟨hc.1,hc.2.1,hc.2.2.1,by rw[hs];exact hc.2.2.2⟩
 |_=>exact Sv h pl n e
theorem Su{c c':aA}{n:Nat}(h:c'.aet=false)(hs:c'.size=c.strip.size):(c.wrap c').xv n=c.xv n:=by
 cases c with
 |bx e' z c=>cases z with
  |zero=>rfl
  |succ z=>exact hs
 |_=>exact YI h n
theorem Xz{c:aA}{pl:Pl}{n:Nat}{e:TypeId}(h:c.Hf pl n e):c.xv n<=n:=by
 cases c with
 |bx e' z c=>cases z with
  |zero=>exact aw _
  |succ z=>exact h.2.2.2
 |_=>exact aw _
def atL(id:Id)(fr:Bool):lS:=match fr with | true=> .free | false=> .own (.id id) 0
def R8(E:Env)(id:Id)(fr:Bool)(c:aA):Prop:=∃pl cur e,E.β id=some pl/\E.w.heap[pl.b]? =some (.cells cur e (0,0))/\E.g pl.b=atL id fr/\c.Hf pl cur.size e/\V E c.strip (cur.toList.take (c.xv cur.size))
def Alike{α β:Type}(R:α->β->Prop):List α->List β->Prop
 |[],[]=>True
 |x::xs,y::ys=>R x y/\Alike R xs ys
 |_,_=>False
theorem Alike.mono{α β:Type}{R R':α->β->Prop}(h:∀x y,R x y->R' x y):∀ {xs:List α} {ys:List β},Alike R xs ys->Alike R' xs ys
 |[],[],_=>trivial
 |_::_,_::_,⟨h1,h2⟩=>⟨h _ _ h1,Alike.mono h h2⟩
 |[],_::_,h=>h.elim
 |_::_,[],h=>h.elim
def Dg(E:Env)(t:Ty)(v:Value)(x:t.den):Prop:=∃cs,cW E t cs x/\fH t.agg cs v
def Ec(E:Env)(kt vt:Ty)(e:MapEntry)(x:kt.den×vt.den):Prop:=Dg E kt e.key x.1/\Dg E vt e.val x.2
theorem Ec.mono{E E':Env}(h:tn E E'){kt vt:Ty}{e:MapEntry}{x:kt.den×vt.den}(he:Ec E kt vt e x):Ec E' kt vt e x:=
 let⟨⟨c1,a1,b1⟩,c2,a2,b2⟩:=he
 ⟨⟨c1,a1.mono h,b1⟩,c2,a2.mono h,b2⟩
def aiA(E:Env)(kt vt:Ty)(es:List MapEntry)(l:List (kt.den×vt.den)):Prop:=∃l',Alike (Ec E kt vt) es l'/\l'.Perm l
theorem aiA.mono{E E':Env}(h:tn E E'){kt vt:Ty}{es:List MapEntry}{l:List (kt.den×vt.den)}(hm:aiA E kt vt es l):aiA E' kt vt es l:=
 let⟨l',h1,h2⟩:=hm
 ⟨l',h1.mono λ_ _ he=>he.mono h,h2⟩
def oh(es:List MapEntry)(clock:Nat):Prop:=(es.map (·.born)).Nodup/\∀e∈es,e.born < clock
theorem oh.nil(n:Nat):oh [] n:=⟨gm,λ_ h=>(by cases h)⟩
theorem oh.push{es:List MapEntry}{clock:Nat}(h:oh es clock){e:MapEntry}(he:e.born=clock):oh (es++ [e]) (clock+1):=by
 refine⟨?_,λx hx=> ?_⟩
 ·rw[rh,List.nodup_append];refine⟨h.1,by simp,λa ha b hb=> ?_⟩;obtain⟨x,hx,rfl⟩:=c9.1 ha;have:=h.2 x hx;simp only[bT,gV,bn]at hb;omega
 ·rcases bD.1 hx with hx | hx
  ·have:=h.2 x hx;omega
  ·rw[bn]at hx;subst hx;omega
theorem oh.erase{es:List MapEntry}{clock:Nat}(h:oh es clock)(j:Nat):oh (es.eraseIdx j) clock:=⟨h.1.sublist ((List.eraseIdx_sublist es j).map _),λx hx=>h.2 x ((List.eraseIdx_sublist es j).subset hx)⟩
theorem oh.set{es:List MapEntry}{clock:Nat}(h:oh es clock){j:Nat}{e x:MapEntry}(hj:es[j]? =some e)(hx:x.born=e.born):oh (es.set j x) clock:=by
 have gv:=(dC.1 hj).1;have bcP:=(dC.1 hj).2;have e1:(es.set j x).map (·.born)=es.map (·.born):=by
  rw[List.map_set,hx,<-bcP];have:es[j].born=(es.map (·.born))[j]'(by simpa using gv):=by simp
  rw[this,gj]
 refine⟨by rw[e1];exact h.1,λy hy=> ?_⟩;rcases List.mem_or_eq_of_mem_set hy with hy | hy
 ·exact h.2 y hy
 ·rw[hy,hx,<-bcP];exact h.2 _ (aM gv)
def bat(E:Env)(id:Id)(kt vt:Ty)(l:List (kt.den×vt.den)):Prop:=
 ∃pl es clock,E.β id=some pl/\E.w.heap[pl.b]? =some (.map es clock)/\E.g pl.b= .own (.id id) 0/\(aiA E kt vt es.toList l/\(l.map (·.1)).Nodup)/\oh es.toList clock
def aUu(E:Env)(i q:Id)(ver:Nat)(kt vt:Ty)(rest:List (kt.den×vt.den))(cur:Option (kt.den×vt.den)):Prop:=
 ∃pl mb since seen c0,E.β i=some pl/\E.w.heap[pl.b]? =some (.mapIter (some mb) since seen c0)/\E.g pl.b= .own (.id i) 0/\∀vr,ver=vr+1->E.F4 q vr/\
  (E.cur q vr->(∃k v l,E.s q=some (.obj vr true (.mp k v l)))/\∃plq es clock,E.β q=some plq/\plq.b=mb/\E.w.heap[plq.b]? =some (.map es clock)/\E.g plq.b= .own (.id q) 0/\
   (∀x∈es.toList,x.born < since)/\(since<=c0/\since<=clock)/\(es.toList.map (·.born)).Nodup/\aiA E kt vt (es.toList.filter λe=> !seen.contains e.born) rest/\
   ∀x,cur=some x->∃(e:MapEntry) (seen':Array Nat),e∈es.toList/\seen=seen'.push e.born/\c0=clock/\Ec E kt vt e x)
def aq6:Nat->LoopState->Option Code->Prop
 | 0,st,pe=>st= .ready/\pe=none
 | 1,st,_=>st= .busy
 | 2,st,pe=>st= .done/\pe=some .ret
 |n+3,st,pe=>st= .done/\pe=some (.exit n)
def Ed(E:Env)(f:aA)(tmps:Array Value):Prop:=f.list.length=tmps.size/\∀i,VS E (f.list.getD i .undef) (tmps.getD i undef)
def bau(E:Env)(id:Id)(c:uZ)(f:aA)(p:Nat):Prop:=∃pl r,E.β id=some pl/\E.w.heap[pl.b]? =some (.loop r)/\E.g pl.b= .own (.id id) 0/\(r.params=c.ps/\r.assign=c.as/\r.body=c.b)/\Ed E f r.tmps/\aq6 p r.state r.pending
def wQ(E:Env)(id:Id)(fr:Bool):aA->Prop
 | .qX c f p=>bau E id c f p
 | .vec e t l=>aX8 E id fr e t l
 | .mp kt vt l=>bat E id kt vt l
 | .sH q ver kt vt rest cur=>aUu E id q ver kt vt rest cur
 |c=>R8 E id fr c
theorem wQ.box{E:Env}{id:Id}{fr:Bool}{c:aA}(h:wQ E id fr c)(hn:c.iy=false):R8 E id fr c:=by cases c <;> first | exact h | (simp[aA.iy]at hn)
theorem R8.obj{E:Env}{id:Id}{fr:Bool}{c:aA}(h:R8 E id fr c):wQ E id fr c:=by cases c <;> first | exact h | (obtain⟨_,_,_,_,_,_,_,hv⟩:=h;simp only[aA.strip,V]at hv)
def iG(E:Env):Prop:=∀id ver fr c,E.s id=some (.obj ver fr c)->wQ E id fr c
structure Trans(w w':World)(g g':Nat->lS):Prop where
 os:w'.os=w.os
 tape:w'.tape=w.tape
 output:w'.output=w.output/\w.drawn<=w'.drawn
 size:w.heap.size<=w'.heap.size
 Sq:∀b,b < w.heap.size->match g b with
  | .free=>g' b= .free/\w'.heap[b]? =w.heap[b]?
  | .own .dZ k=>g' b= .own .dZ k/\w'.heap[b]? =w.heap[b]?
  | .own (.id _) k=>(g' b= .free\/∃i k',g' b= .own (.id i) k'/\k<=k')/\∀off v,off < k->w.cell? ⟨b,off,none⟩=some v->w'.cell? ⟨b,off,none⟩=some v
theorem Trans.refl(w:World)(g:Nat->lS):Trans w w g g:=
 ⟨rfl,rfl,⟨rfl,aw _⟩,aw _,λb _=>by
  cases g b with
  |free=>exact⟨rfl,rfl⟩
  |own o k=>cases o with
   |dZ=>exact⟨rfl,rfl⟩
   |id i=>exact⟨.inr ⟨i,k,rfl,aw _⟩,λ_ _ _ h=>h⟩⟩
theorem Trans.trans{w w' w'':World}{g g' g'':Nat->lS}(h:Trans w w' g g')(h':Trans w' w'' g' g''):Trans w w'' g g'':=by
 refine⟨h'.os.trans h.os,h'.tape.trans h.tape,⟨h'.output.1.trans h.output.1,gz h.output.2 h'.output.2⟩,gz h.size h'.size,λb hb=> ?_⟩;have h1:=h.Sq b hb;have h2:=h'.Sq b (Nat.lt_of_lt_of_le hb h.size);cases hg:g b with
 |free=>
  rw[hg]at h1;simp only at h1 ⊢;rw[h1.1]at h2;simp only at h2;exact⟨h2.1,h2.2.trans h1.2⟩
 |own o k=>
  cases o with
  |dZ=>
   rw[hg]at h1;simp only at h1 ⊢;rw[h1.1]at h2;simp only at h2;exact⟨h2.1,h2.2.trans h1.2⟩
  |id i=>
   rw[hg]at h1;simp only at h1 ⊢;obtain⟨aYt,bcA⟩:=h1;rcases aYt with aYt | ⟨i',k',aYt,hk⟩
   ·rw[aYt]at h2;simp only at h2;exact⟨.inl h2.1,λoff v ho hv=>by
     have:=bcA off v ho hv;simpa only[World.cell?,h2.2]using this⟩
   ·rw[aYt]at h2;simp only at h2;refine⟨?_,λoff v ho hv=>h2.2 off v (by omega) (bcA off v ho hv)⟩;rcases h2.1 with baM | ⟨i'',k'',baM,hk'⟩
    ·exact .inl baM
    ·exact .inr ⟨i'',k'',baM,by omega⟩
theorem Trans.mem{E E':Env}(h:Trans E.w E'.w E.g E'.g):tn E E':=by
 refine⟨?_,λb ob hf ho=>by
  have h1:=h.Sq b (bK.1 ho).1;rw[hf]at h1;exact⟨h1.1,h1.2.trans ho⟩⟩
 intro b off v ⟨hc,ho⟩;have hb:b < E.w.heap.size:=World.block_lt_of_cell? _ _ hc;have h1:=h.Sq b hb;unfold Env.has uR at*;cases hg:E.g b with
 |free=>
  rw[hg]at h1;simp only at h1;refine⟨?_,by rw[h1.1];trivial⟩;simpa only[World.cell?,h1.2]using hc
 |own o k=>
  rw[hg]at ho;simp only at ho;cases o with
  |dZ=>
   rw[hg]at h1;simp only at h1;refine⟨?_,by rw[h1.1];exact ho⟩;simpa only[World.cell?,h1.2]using hc
  |id i=>
   rw[hg]at h1;simp only at h1;refine⟨h1.2 off v ho hc,?_⟩;rcases h1.1 with h2 | ⟨i',k',h2,hk⟩
   ·rw[h2];trivial
   ·rw[h2];show off < k';omega
theorem Ed.mono{E E':Env}(h:cJ E E'){f:aA}{tmps:Array Value}(hs:Ed E f tmps):Ed E' f tmps:=⟨hs.1,λi=>(hs.2 i).mono h⟩
theorem wQ.aUc{E E':Env}(h:cJ E E'){id:Id}{fr:Bool}{c:aA}(ho:wQ E id fr c)(hβ:E'.β id=E.β id)
    (hb:∀pl,E.β id=some pl->E'.w.heap[pl.b]? =E.w.heap[pl.b]? /\E'.g pl.b=E.g pl.b)
    (hq:∀q ver k v l,(∃kt vt rest cu,c= .sH q (ver+1) kt vt rest cu)->E.s q=some (.obj ver true (.mp k v l))->E'.cur q ver->(∃k v l,E'.s q=some (.obj ver true (.mp k v l)))/\∀pl,E.β q=some pl->E'.w.heap[pl.b]? =E.w.heap[pl.b]? /\E'.g pl.b=E.g pl.b):wQ E' id fr c:=by
  by_cases hn:c.iy=false
  · obtain⟨pl,cur,e,h1,h2,h3,h5,h4⟩:=ho.box hn
    obtain⟨b1,b2⟩:=hb pl h1;exact R8.obj ⟨pl,cur,e,by rw[hβ,h1],by rw[b1,h2],by rw[b2,h3],h5,h4.mono h⟩
  · cases c <;> first
      | (exact absurd rfl hn)
      | (obtain⟨pl,r,h1,h2,h3,h4,h5,h6⟩:=ho
         obtain⟨b1,b2⟩:=hb pl h1;exact⟨pl,r,by rw[hβ,h1],by rw[b1,h2],by rw[b2,h3],h4,h5.mono h,h6⟩)
      | (obtain⟨pl,es,clock,h1,h2,h3,h4⟩:=ho
         obtain⟨b1,b2⟩:=hb pl h1;exact⟨pl,es,clock,by rw[hβ,h1],by rw[b1,h2],by rw[b2,h3],⟨h4.1.1.mono h.mem,h4.1.2⟩,h4.2⟩)
      | (obtain⟨pl,mb,since,seen,c0,h1,h2,h3,hv⟩:=ho
         obtain⟨b1,b2⟩:=hb pl h1;refine⟨pl,mb,since,seen,c0,by rw[hβ,h1],by rw[b1,h2],by rw[b2,h3],λvr asV=> ?_⟩;obtain⟨h4,h5⟩:=hv vr asV;refine⟨h.F4 _ _ h4,λhc=> ?_⟩;obtain⟨c1,e1⟩:=h.cur _ _ h4 hc;obtain⟨⟨k,v,l,hk⟩,plq,es,clock,g1,g2,g3,g4,g5,g6,g7,g8,g9⟩:=h5 c1;obtain⟨q1,q2⟩:=hq _ _ _ _ _ ⟨_,_,_,_,by rw[asV]⟩ hk hc;obtain⟨q3,q4⟩:=q2 plq g1;exact⟨q1,plq,es,clock,by rw[e1,g1],g2,by rw[q3,g3],by rw[q4,g4],g5,g6,g7,g8.mono h.mem,λx hx=>
           let⟨e,se,a1,a2,a3,a4⟩:=g9 x hx
           ⟨e,se,a1,a2,a3,a4.mono h.mem⟩⟩)
      |skip
    rename_i e t l;obtain⟨hz,ho⟩:=ho;refine⟨hz,?_⟩;rw[hβ];cases hp:E.β id with
    |none=>rw[hp]at ho;exact ho
    |some pl=>
      rw[hp]at ho;simp only at ho ⊢;obtain⟨b1,b2⟩:=hb pl hp;obtain⟨cur,k,h1,h2,h3,h4,h5,h6,h7,h8⟩:=ho;exact⟨cur,k,by rw[b1,h1],h2,h3,h4,by rw[b2,h5],h6,h7,h8.mono λc x hx=>hx.mono h.mem⟩
theorem wQ.mono{E E':Env}(h:cJ E E'){id:Id}{fr:Bool}{c:aA}(ho:wQ E id fr c)(hβ:E'.β id=E.β id)(hb:∀pl,E.β id=some pl->E'.w.heap[pl.b]? =E.w.heap[pl.b]? /\E'.g pl.b=E.g pl.b)(hq:∀q ver k v l,E.s q=some (.obj ver true (.mp k v l))->E'.cur q ver->(∃k v l,E'.s q=some (.obj ver true (.mp k v l)))/\∀pl,E.β q=some pl->E'.w.heap[pl.b]? =E.w.heap[pl.b]? /\E'.g pl.b=E.g pl.b):wQ E' id fr c:=ho.aUc h hβ hb λq ver k v l _=>hq q ver k v l
def AS.env(s:AS)(w:World)(g:Nat->lS)(β:Id->Option Pl):Env:= {w,g,β,s:=s.bQ}
structure Ctx where
 E:Env
def Ctx.ok(C:Ctx):Prop:=(∀i j,C.E.s (.new i j)=none)/\∀k v fr c,C.E.s (.bh k)=some (.obj v fr c)->v=0
def vf(D:Nat):Deferred:= {target:= .collected D,args:= #[]}
def axV(n:Nat)(ds:List Deferred)(w:World)(g:Nat->lS):Prop:=ds.Nodup/\∀d∈ds,∃D,d=vf D/\n<=D/\w.heap[D]? =some (.deferred (some []))/\g D= .own .dZ 0
theorem axV.mono{n:Nat}{ds:List Deferred}{w w':World}{g g':Nat->lS}(h:axV n ds w g)(ht:Trans w w' g g'):axV n ds w' g':=
 ⟨h.1,λd hd=>by
  obtain⟨D,h1,h2,h3,h4⟩:=h.2 d hd;have:=ht.Sq D (bK.1 h3).1;rw[h4]at this;exact⟨D,h1,h2,this.2.trans h3,this.1⟩⟩
structure Inv(C:Ctx)(g:Nat->lS)(β:Id->Option Pl)(s:AS)(a:Act)(w:World):Prop where
 defers:axV C.E.w.heap.size a.defers w g
 size:a.tmps.size=s.cg.length
 cg:∀i,VS (s.env w g β) (s.slot i) (a.tmps.getD i undef)
 bI:iG (s.env w g β)
 trans:Trans C.E.w w C.E.g g
 le:cJ C.E (s.env w g β)
def ia(C:Ctx)(s:AS)(a:Act)(w:World):Prop:=∃g β,Inv C g β s a w
theorem acM(s:AS)(d:Nat)(v:aA)(i:Nat):(s.put (some d) v).slot i=if i=d/\d < s.cg.length then v else s.slot i:=by
 simp only[AS.put,AS.slot,aD,List.getElem?_set];by_cases h:d=i
 ·subst h;by_cases hl:d < s.cg.length
  ·simp[hl]
  ·simp[hl]
 ·simp[h,Ne.symm h]
@[simp] theorem JI(s:AS)(d:Option Tmp)(v:aA):(s.put d v).bQ=s.bQ:=by cases d <;> rfl
@[simp] theorem ajI(s:AS)(d:Option Tmp)(v:aA)(w:World)(g:Nat->lS)(β:Id->Option Pl):(s.put d v).env w g β=s.env w g β:=by simp[AS.env]
theorem ase(a:Act)(d:Nat)(v:Value)(i:Nat):(a.put (some d) v).tmps.getD i undef=if i=d/\d < a.tmps.size then v else a.tmps.getD i undef:=by
 simp only[Act.put,cF,dP];by_cases h:d=i
 ·subst h;by_cases hl:d < a.tmps.size
  ·simp[hl]
  ·simp[hl]
 ·simp[h,Ne.symm h]
theorem Inv.put{C:Ctx}{g:Nat->lS}{β:Id->Option Pl}{s:AS}{a:Act}{w:World}(h:Inv C g β s a w)(d:Option Tmp){v:aA}{x:Value}(hv:VS (s.env w g β) v x):
  Inv C g β (s.put d v) (a.put d x) w:=by
 cases d with
 |none=>exact h
 |some d=>
  refine⟨h.defers,by simpa[Act.put,AS.put]using h.size,λi=> ?_,by simpa using h.bI,h.trans,by simpa using h.le⟩;rw[ajI,acM,ase,h.size];split
  ·exact hv
  ·exact h.cg i
theorem Inv.step{C:Ctx}{g g':Nat->lS}{β β':Id->Option Pl}{s s':AS}{a:Act}{w w':World}(h:Inv C g β s a w)(hs:s'.cg=s.cg)
  (ht:Trans w w' g g') (he:cJ (s.env w g β) (s'.env w' g' β')) (ho:iG (s'.env w' g' β')):Inv C g' β' s' a w':=
 ⟨h.defers.mono ht,by rw[hs];exact h.size,λi=>by
  have:s'.slot i=s.slot i:=by simp[AS.slot,hs]
  rw[this];exact(h.cg i).mono he,ho,h.trans.trans ht,h.le.trans he⟩
theorem aGD{E:Env}(v:Value):VS E (ofConst v) v:=by
 cases v with
 |bool b=>exact⟨_,by simp[ofConst,V,cW],rfl⟩
 |int k n=>exact⟨_,by simp[ofConst,V,cW],rfl⟩
 |string s=>exact⟨_,by simp[ofConst,V,cW],rfl⟩
 |slice a l c=>cases a with
  |none=>
   cases l with
   |zero=>cases c with
    |zero=>exact⟨_,by simp[ofConst,V],rfl⟩
    |succ _=>trivial
   |succ _=>trivial
  |some _=>trivial
 |pointer a=>cases a with
  |none=>exact⟨_,by simp[ofConst,V],rfl⟩
  |some _=>trivial
 |map r=>cases r with
  |none=>exact⟨_,by simp[ofConst,V],rfl⟩
  |some _=>trivial
 |nilFunc=>exact⟨_,by simp[ofConst,V],rfl⟩
 |_=>trivial
theorem Inv.ev{C:Ctx}{g:Nat->lS}{β:Id->Option Pl}{s:AS}{a:Act}{w:World}(h:Inv C g β s a w)(x:Operand):VS (s.env w g β) (s.ev x) (a.eval x):=by
 cases x with
 |tmp t=>exact h.cg t
 |const v=>exact aGD v
 |func f=>exact⟨_,by simp only[AS.ev,V];exact⟨[],rfl,by simp[VC]⟩,rfl⟩
 |global _=>trivial
theorem eC(s:AS)(id:Id)(e:dB)(h:s.bQ id≠none):(s.bg id e).bQ id=some e:=by
 cases id with
 |bh k=>
  simp only[AS.bQ,AS.bg]at*;have hk:k < s.bU.length:=by
   rcases pM k s.bU.length with h' | h'
   ·exact h'
   ·exact absurd (dD h') h
  simp[hk]
 |new i j=>
  simp only[AS.bQ,AS.bg]at*;have hj:j < (s.news.getD i []).length:=by
   rcases pM j (s.news.getD i []).length with h' | h'
   ·exact h'
   ·exact absurd (dD h') h
  have hi:i < s.news.length:=by
   rcases pM i s.news.length with h' | h'
   ·exact h'
   ·simp[dD h']at hj
  have:((s.news.set i ((s.news.getD i []).set j e)).getD i [])=(s.news.getD i []).set j e:=by simp[aD,hi]
  rw[this];simp only[List.getElem?_set,hj,bG]
theorem cQ(s:AS)(id id':Id)(e:dB)(h:id'≠id):(s.bg id e).bQ id'=s.bQ id':=by
 cases id with
 |bh k=>
  cases id' with
  |bh k'=>
   simp only[AS.bQ,AS.bg];rw[dW (λe=>h (by rw[e]))]
  |new i j=>rfl
 |new i j=>
  cases id' with
  |bh k'=>rfl
  |new i' j'=>
   simp only[AS.bQ,AS.bg];by_cases hi:i'=i
   ·subst hi;have hj:j≠j':=λe=>h (by rw[e])
    by_cases hl:i' < s.news.length
    ·have:((s.news.set i' ((s.news.getD i' []).set j e)).getD i' [])=(s.news.getD i' []).set j e:=by simp[aD,hl]
     rw[this,dW hj]
    ·rw[List.set_eq_of_length_le (by omega)]
   ·have:(s.news.set i ((s.news.getD i []).set j e)).getD i' []=s.news.getD i' []:=by simp only[aD];rw[dW (Ne.symm hi)]
    rw[this]
@[simp] theorem da(s:AS)(id:Id)(e:dB):(s.bg id e).cg=s.cg:=by cases id <;> rfl
@[simp] theorem aW1(s:AS)(i:Nat)(es:List dB):(s.born i es).cg=s.cg:=rfl
theorem dX{s:AS}{id:Id}{v:Nat}{fr:Bool}{c:aA}(h:s.obj id=some (v,fr,c)):s.bQ id=some (.obj v fr c):=by
 unfold AS.obj at h;split at h
 ·rename_i h';simp at h;obtain⟨rfl,rfl,rfl⟩:=h;exact h'
 ·cases h
theorem cJ.bg{s:AS}{w w':World}{g g':Nat->lS}{β β':Id->Option Pl}{id:Id}{v v':Nat}{fr fr':Bool}{c c':aA}(hs:s.bQ id=some (.obj v fr c))(hv:v<=v')
  (ht:Trans w w' g g') (hβ:∀i,i≠id->β' i=β i) (hβ':v'=v->β' id=β id):cJ (s.env w g β) ((s.bg id (.obj v' fr' c')).env w' g' β'):=by
 have kQ:=eC s id (.obj v' fr' c') (by rw[hs];simp);refine⟨Trans.mem ht,λi ver hb=> ?_,λi ver hb hc=> ?_⟩
 ·by_cases hi:i=id
  ·subst hi;obtain⟨_,h2⟩:=hb;refine⟨by show(s.bg i (.obj v' fr' c')).bQ i≠none;rw[kQ];simp,λv'' fr'' c'' he=> ?_⟩;have he':(s.bg i (.obj v' fr' c')).bQ i=some (.obj v'' fr'' c''):=he;rw[kQ]at he';simp only[ay,dB.obj.injEq]at he';have:=h2 v fr c hs;omega
  ·have:=cQ s id i (.obj v' fr' c') hi;obtain⟨h1,h2⟩:=hb;exact⟨by show(s.bg id (.obj v' fr' c')).bQ i≠none;rw[this];exact h1,λv'' fr'' c'' he=>h2 v'' fr'' c'' (this.symm.trans he)⟩
 ·obtain⟨fr'',c'',hc⟩:=hc;by_cases hi:i=id
  ·subst hi;have hc':(s.bg i (.obj v' fr' c')).bQ i=some (.obj ver fr'' c''):=hc;rw[kQ]at hc';simp only[ay,dB.obj.injEq]at hc';have h2:=hb.2 v fr c hs;have e:v'=v:=by omega
   refine⟨⟨fr,c,?_⟩,hβ' e⟩;rw[<-hc'.1,e];exact hs
  ·have hc':(s.bg id (.obj v' fr' c')).bQ i=some (.obj ver fr'' c''):=hc;rw[cQ s id i _ hi]at hc';exact⟨⟨fr'',c'',hc'⟩,hβ i hi⟩
theorem iG.bg{s:AS}{w w':World}{g g':Nat->lS}{β β':Id->Option Pl}{id:Id}{v':Nat}{fr':Bool}{c':aA}(h:iG (s.env w g β))(gg:s.bQ id≠none)
  (he:cJ (s.env w g β) ((s.bg id (.obj v' fr' c')).env w' g' β')) (hβ:∀i,i≠id->β' i=β i)
  (hb:∀i ver fr c pl,i≠id->s.bQ i=some (.obj ver fr c)->β i=some pl->w'.heap[pl.b]? =w.heap[pl.b]? /\g' pl.b=g pl.b)
  (ho:wQ ((s.bg id (.obj v' fr' c')).env w' g' β') id fr' c')
  (amu:∀ver k v l,s.bQ id=some (.obj ver true (.mp k v l))->v'=ver/\fr'=true/\(∃k v l,c'= .mp k v l)/\∀pl,β id=some pl->w'.heap[pl.b]? =w.heap[pl.b]? /\g' pl.b=g pl.b):iG ((s.bg id (.obj v' fr' c')).env w' g' β'):=by
 intro i ver fr c hi;by_cases cR:i=id
 ·subst cR;have hi':(s.bg i (.obj v' fr' c')).bQ i=some (.obj ver fr c):=hi;rw[eC s i _ gg]at hi';simp only[ay,dB.obj.injEq]at hi';obtain⟨rfl,rfl,rfl⟩:=hi';exact ho
 ·have hi':(s.bg id (.obj v' fr' c')).bQ i=some (.obj ver fr c):=hi;rw[cQ s id i _ cR]at hi';refine(h i ver fr c hi').mono he (hβ i cR) (λpl hp=>hb i ver fr c pl cR hi' hp) λq vq k v l hq hc=> ?_
  have hq:s.bQ q=some (.obj vq true (.mp k v l)):=hq;by_cases bbn:q=id
  ·subst bbn;obtain⟨rfl,rfl,⟨k',v',l',rfl⟩,aXD⟩:=amu _ _ _ _ hq;exact⟨⟨k',v',l',eC s q _ gg⟩,aXD⟩
  ·exact⟨⟨k,v,l,by show(s.bg id _).bQ q=_;rw[cQ s id q _ bbn];exact hq⟩,λpl hp=>hb q vq true _ pl bbn hq hp⟩
theorem XO{s:AS}{w:World}{g:Nat->lS}{β:Id->Option Pl}{id:Id}{v:Nat}{fr:Bool}{c:aA}(hs:s.bQ id=some (.obj v fr c)):
  ∀ver k v1 l,s.bQ id=some (.obj ver true (.mp k v1 l))->v=ver/\true=true/\(∃k v l,c= .mp k v l)/\∀pl,β id=some pl->w.heap[pl.b]? =w.heap[pl.b]? /\g pl.b=g pl.b:=λver k v1 l hl=>by
 rw[hs]at hl;cases hl;exact⟨rfl,rfl,⟨_,_,_,rfl⟩,λ_ _=>⟨rfl,rfl⟩⟩
theorem pY{s:AS}{id:Id}{v:Nat}{fr:Bool}{c:aA}(hs:s.bQ id=some (.obj v fr c))(hc:∀k v1 l,c≠ .mp k v1 l){Q:Nat->Prop}:
  ∀ver k v1 l,s.bQ id=some (.obj ver true (.mp k v1 l))->Q ver:=λver k v1 l hl=>by
 rw[hs]at hl;cases hl;exact absurd rfl (hc _ _ _)
theorem P4{s:AS}{id:Id}{v:Nat}{c:aA}(hs:s.bQ id=some (.obj v false c)){Q:Nat->Prop}:
  ∀ver k v1 l,s.bQ id=some (.obj ver true (.mp k v1 l))->Q ver:=λver k v1 l hl=>by
 rw[hs]at hl;cases hl
theorem Js{s:AS}{id:Id}{v:Nat}{fr:Bool}{c:aA}(hs:s.bQ id=some (.obj v fr c))(h:s.uB id=true):fr=false:=by
 have e:s.obj id=some (v,fr,c):=by simp[AS.obj,hs]
 unfold AS.uB at h;rw[e]at h;simpa using h
theorem wQ.label{E:Env}{id:Id}{fr:Bool}{c:aA}(h:wQ E id fr c){pl:Pl}(hp:E.β id=some pl):
    pl.b < E.w.heap.size/\((∃k,E.g pl.b= .own (.id id) k)\/(fr=true/\E.g pl.b= .free)):=by
  by_cases hn:c.iy=false
  · obtain⟨pl',cur,e,h1,h2,h3,h4⟩:=h.box hn
    rw[hp]at h1;obtain rfl:pl=pl':=by simpa using h1
    refine⟨(bK.1 h2).1,?_⟩;cases fr with
    |true=>exact .inr ⟨rfl,h3⟩
    |false=>exact .inl ⟨0,h3⟩
  · cases c <;> first
      | (exact absurd rfl hn)
      | (obtain⟨pl',r,h1,h2,h3,_,_,_⟩:=h
         rw[hp]at h1;obtain rfl:pl=pl':=by simpa using h1
         exact⟨(bK.1 h2).1,.inl ⟨0,h3⟩⟩)
      | (obtain⟨pl',es,clock,h1,h2,h3,_⟩:=h
         rw[hp]at h1;obtain rfl:pl=pl':=by simpa using h1
         exact⟨(bK.1 h2).1,.inl ⟨0,h3⟩⟩)
      | (obtain⟨pl',mb,since,seen,c0,h1,h2,h3,_⟩:=h
         rw[hp]at h1;obtain rfl:pl=pl':=by simpa using h1
         exact⟨(bK.1 h2).1,.inl ⟨0,h3⟩⟩)
      |skip
    obtain⟨_,h⟩:=h;rw[hp]at h;obtain⟨cur,k,h1,_,_,_,h5,_⟩:=h;exact⟨(bK.1 h1).1,.inl ⟨k,h5⟩⟩
def ni{α:Type}(f:Nat->α)(b:Nat)(x:α):Nat->α:=λb'=>if b'=b then x else f b'
@[simp] theorem fv{α:Type}(f:Nat->α)(b:Nat)(x:α):ni f b x b=x:=by simp[ni]
theorem fi{α:Type}(f:Nat->α)(b:Nat)(x:α){b':Nat}(h:b'≠b):ni f b x b'=f b':=by simp[ni,h]
def ZW:aA->Nat->Prop
 | .vec _ t l,j=>j < l.length*t.size
 |_,_=>True
theorem ZW.of{c:aA}(h:c.iy=false)(j:Nat):ZW c j:=by cases c <;> first | trivial | (simp[aA.iy]at h)
theorem aHK{w:World}{b:Nat}{es:Array MapEntry}{clock:Nat}(h:w.heap[b]? =some (.map es clock))(j:Nat):w.cell? ⟨b,j,none⟩=none:=by simp[World.cell?,h]
theorem ajS{C:Ctx}{g:Nat->lS}{β:Id->Option Pl}{s:AS}{a:Act}{w:World}(h:Inv C g β s a w)(id:Id):
    ∃g',Inv C g' β (s.freeze id) a w/\cJ (s.env w g β) ((s.freeze id).env w g' β)/\Trans w w g g'/\
      (∀v fr c,s.bQ id=some (.obj v fr c)->∀pl,β id=some pl->∀j x,w.cell? ⟨pl.b,j,none⟩=some x->
        ZW c j->uR g' pl.b j):=by
  unfold AS.freeze;cases hs:s.bQ id with
  |none=>exact⟨g,h,cJ.refl _,Trans.refl _ _,λ_ _ _ hh=>by cases hh⟩
  |some e=>
    cases e with
    |dead=>exact⟨g,h,cJ.refl _,Trans.refl _ _,λ_ _ _ hh=>by cases hh⟩
    |obj v fr c=>
      simp only;have lK:wQ (s.env w g β) id fr c:=h.bI id v fr c hs;cases hp:β id with
      |none=>
        have ht:=Trans.refl w g;have he:cJ (s.env w g β) ((s.bg id (.obj v true c)).env w g β):=cJ.bg hs (aw _) ht (λ_ _=>rfl) (λ_=>rfl);refine⟨g,h.step (da _ _ _) ht he ?_,he,ht,λ_ _ _ _ pl Oi=>by cases Oi⟩;refine iG.bg h.bI (by rw[hs];simp) he (λ_ _=>rfl) (λ_ _ _ _ _ _ _ _=>⟨rfl,rfl⟩) ?_ (XO hs)
        by_cases hn:c.iy=false
        · obtain⟨pl,_,_,h1,_⟩:=lK.box hn
          have h1':β id=some pl:=h1;rw[hp]at h1';cases h1'
        · cases c <;> first
            | (exact absurd rfl hn)
            | (obtain⟨pl,_,h1,_⟩:=lK
               have h1':β id=some pl:=h1;rw[hp]at h1';cases h1')
            | (obtain⟨pl,_,_,h1,_⟩:=lK
               have h1':β id=some pl:=h1;rw[hp]at h1';cases h1')
            | (obtain⟨pl,_,_,_,_,h1,_⟩:=lK
               have h1':β id=some pl:=h1;rw[hp]at h1';cases h1')
            |skip
          obtain⟨hz,ho⟩:=lK;have ho':(match β id with
            |none=>_
            |some pl=>_):=ho
          refine⟨hz,?_⟩;show(match β id with
            |none=>_
            |some pl=>_)
          rw[hp]at ho' ⊢;exact ho'
      |some pl=>
        have aYV:=lK.label (pl:=pl) hp;by_cases hn:c.iy=false
        · obtain⟨pl',cur,e,h1,h2,h3,h5,h4⟩:=lK.box hn
          have h1':β id=some pl':=h1;rw[hp]at h1';obtain rfl:pl=pl':=by simpa using h1'
          have h3':g pl.b=atL id fr:=h3;have ht:Trans w w g (ni g pl.b .free):=by
            refine⟨rfl,rfl,⟨rfl,aw _⟩,aw _,λb hb=> ?_⟩;by_cases ajX:b=pl.b
            · subst ajX
              rw[h3',fv];cases fr with
              |true=>exact⟨rfl,rfl⟩
              |false=>exact⟨.inl rfl,λ_ _ _ hh=>hh⟩
            · rw[fi _ _ _ ajX]
              exact(Trans.refl w g).Sq b hb
          have he:cJ (s.env w g β) ((s.bg id (.obj v true c)).env w (ni g pl.b .free) β):=cJ.bg hs (aw _) ht (λ_ _=>rfl) (λ_=>rfl);refine⟨ni g pl.b .free,h.step (da _ _ _) ht he ?_,he,ht,?_⟩
          · refine iG.bg h.bI (by rw[hs];simp) he (λ_ _=>rfl) (λi ver fr' c' pl' hi cM Oi=>⟨rfl,?_⟩) ?_ (pY hs λk v1 l e=>by rw[e]at hn;simp[aA.iy]at hn)
            · by_cases ajX:pl'.b=pl.b
              · rw[ajX,fv]
                have hl:=(h.bI i ver fr' c' cM).label (pl:=pl') Oi;have auM:(∃k,g pl'.b= .own (.id i) k)\/(fr'=true/\g pl'.b= .free):=hl.2;rw[ajX,h3']at auM;cases fr with
                |true=>exact h3'.symm▸rfl
                |false=>
                  exfalso;rcases auM with⟨k,hk⟩ | ⟨_,hk⟩
                  · simp only[atL,lS.own.injEq,Own.id.injEq]at hk
                    exact hi hk.1.symm
                  · cases hk
              · rw[fi _ _ _ ajX]
            · exact R8.obj ⟨pl,cur,e,hp,h2,fv _ _ _,h5,V.mono he h4⟩
          · intro v1 fr1 c1 hh pl1 aj2 j x hx hj
            obtain rfl:pl=pl1:=by simpa using aj2
            unfold uR;rw[fv];trivial
        · cases c <;> first | (exact absurd rfl hn) | skip
          rotate_left;rotate_left
          · rename_i q vq kt vt rest cu
            have ht:=Trans.refl w g;have he:cJ (s.env w g β) ((s.bg id (.obj v true (.sH q vq kt vt rest cu))).env w g β):=cJ.bg hs (aw _) ht (λ_ _=>rfl) (λ_=>rfl);have hob':=lK;obtain⟨pl',mb,since,seen,c0,h1,h2,_⟩:=lK;have h1':β id=some pl':=h1;rw[hp]at h1';obtain rfl:pl=pl':=by simpa using h1'
            refine⟨g,h.step (da _ _ _) ht he ?_,he,ht,λ_ _ _ _ pl1 aj2 j x hx _=> ?_⟩
            · refine iG.bg h.bI (by rw[hs];simp) he (λ_ _=>rfl) (λ_ _ _ _ _ _ _ _=>⟨rfl,rfl⟩) ?_ (XO hs)
              exact wQ.mono he (fr:=true) hob' rfl (λ_ _=>⟨rfl,rfl⟩) λq2 v2 k2 v3 l2 SU _=>⟨⟨k2,v3,l2,by
                have SU:s.bQ q2=some (.obj v2 true (.mp k2 v3 l2)):=SU;have gg:q2≠id:=λe=>by rw[e,hs]at SU;cases SU
                show(s.bg id _).bQ q2=_;rw[cQ s id q2 _ gg];exact SU⟩,λ_ _=>⟨rfl,rfl⟩⟩
            · obtain rfl:pl=pl1:=by simpa using aj2
              have h2:w.heap[pl.b]? =some (.mapIter (some mb) since seen c0):=h2
              simp[World.cell?,h2]at hx
          · rename_i k f p
            have ht:=Trans.refl w g;have he:cJ (s.env w g β) ((s.bg id (.obj v true (.qX k f p))).env w g β):=cJ.bg hs (aw _) ht (λ_ _=>rfl) (λ_=>rfl);obtain⟨pl',r,h1,h2,h3,h4,h5,h6⟩:=lK;have h1':β id=some pl':=h1;rw[hp]at h1';obtain rfl:pl=pl':=by simpa using h1'
            refine⟨g,h.step (da _ _ _) ht he ?_,he,ht,λ_ _ _ _ pl1 aj2 j x hx _=> ?_⟩
            · exact iG.bg h.bI (by rw[hs];simp) he (λ_ _=>rfl) (λ_ _ _ _ _ _ _ _=>⟨rfl,rfl⟩) ⟨pl,r,hp,h2,h3,h4,h5.mono he,h6⟩ (XO hs)
            · obtain rfl:pl=pl1:=by simpa using aj2
              have h2:w.heap[pl.b]? =some (.loop r):=h2
              simp[World.cell?,h2]at hx
          rotate_left
          · obtain⟨pl',es,clock,h1,h2,h3,h4⟩:=lK
            have h1':β id=some pl':=h1;rw[hp]at h1';obtain rfl:pl=pl':=by simpa using h1'
            have ht:=Trans.refl w g;rename_i kt vt l;have he:cJ (s.env w g β) ((s.bg id (.obj v true (.mp kt vt l))).env w g β):=cJ.bg hs (aw _) ht (λ_ _=>rfl) (λ_=>rfl);refine⟨g,h.step (da _ _ _) ht he ?_,he,ht,λ_ _ _ _ pl1 aj2 j x hx _=> ?_⟩
            · exact iG.bg h.bI (by rw[hs];simp) he (λ_ _=>rfl) (λ_ _ _ _ _ _ _ _=>⟨rfl,rfl⟩) ⟨pl,es,clock,hp,h2,h3,⟨h4.1.1.mono he.mem,h4.1.2⟩,h4.2⟩ (XO hs)
            · obtain rfl:pl=pl1:=by simpa using aj2
              have h2:w.heap[pl.b]? =some (.map es clock):=h2
              rw[aHK h2]at hx;cases hx
          rename_i e t l;obtain⟨hz,ho⟩:=lK;have ho':(match β id with
            |none=>l=[]
            |some pl=>∃cur k,w.heap[pl.b]? =some (.cells cur e (0,0))/\cur.size=pl.cap*t.size/\l.length<=pl.cap/\pl.cap<=maxLen/\g pl.b= .own (.id id) k/\
                k<=l.length*t.size/\(fr=false->k=0)/\bz (cW (s.env w g β) t) (cur.toList.take (l.length*t.size)) l):=ho
          rw[hp]at ho';obtain⟨cur,k,h1,h2,h3,h4,h5,h6,h7,h8⟩:=ho';have ht:Trans w w g (ni g pl.b (.own (.id id) (l.length*t.size))):=by
            refine⟨rfl,rfl,⟨rfl,aw _⟩,aw _,λb hb=> ?_⟩;by_cases ajX:b=pl.b
            · subst ajX
              rw[h5,fv];exact⟨.inr ⟨id,_,rfl,h6⟩,λ_ _ _ hh=>hh⟩
            · rw[fi _ _ _ ajX]
              exact(Trans.refl w g).Sq b hb
          have he:cJ (s.env w g β) ((s.bg id (.obj v true (.vec e t l))).env w (ni g pl.b (.own (.id id) (l.length*t.size))) β):=cJ.bg hs (aw _) ht (λ_ _=>rfl) (λ_=>rfl);refine⟨_,h.step (da _ _ _) ht he ?_,he,ht,?_⟩
          · refine iG.bg h.bI (by rw[hs];simp) he (λ_ _=>rfl) (λi ver fr' c' pl' hi cM Oi=>⟨rfl,?_⟩) ?_ (pY hs λk v1 l e=>by cases e)
            · by_cases ajX:pl'.b=pl.b
              · exfalso
                have hl:=(h.bI i ver fr' c' cM).label (pl:=pl') Oi;have auM:(∃k,g pl'.b= .own (.id i) k)\/(fr'=true/\g pl'.b= .free):=hl.2;rw[ajX,h5]at auM;rcases auM with⟨k,hk⟩ | ⟨_,hk⟩
                · simp only[lS.own.injEq,Own.id.injEq]at hk
                  exact hi hk.1.symm
                · cases hk
              · rw[fi _ _ _ ajX]
            · refine⟨hz,?_⟩
              show(match β id with
                |none=>l=[]
                |some pl=>_)
              rw[hp];exact⟨cur,_,h1,h2,h3,h4,fv _ _ _,aw _,(by intro hh;cases hh),h8.mono λc x hx=>hx.mono he.mem⟩
          · intro v1 fr1 c1 hh pl1 aj2 j x hx hj
            obtain rfl:pl=pl1:=by simpa using aj2
            simp only[ay,dB.obj.injEq]at hh;obtain⟨_,_,rfl⟩:=hh;unfold uR;rw[fv];exact hj
end Go.Ab
namespace Go.Ab
def aX6(E E':Env)(ids:List Id):Prop:=∀id∈ids,∀v fr c,E.s id=some (.obj v fr c)->∀pl,E.β id=some pl->∀j x,E.w.cell? ⟨pl.b,j,none⟩=some x->ZW c j->E'.has pl.b j x
theorem Zy{s:AS}{id i:Id}{v:Nat}{fr:Bool}{c:aA}(h:s.bQ i=some (.obj v fr c)):∃fr',(s.freeze id).bQ i=some (.obj v fr' c):=by
 unfold AS.freeze;by_cases hi:i=id
 ·subst hi;rw[h];exact⟨true,eC s i _ (by rw[h];simp)⟩
 ·split
  ·exact⟨fr,by rw[cQ s id i _ hi];exact h⟩
  ·exact⟨fr,h⟩
theorem fo{C:Ctx}{β:Id->Option Pl}{a:Act}{w:World}:∀(ids:List Id) {g:Nat->lS} {s:AS},Inv C g β s a w->
  ∃g',Inv C g' β (s.bt ids) a w/\cJ (s.env w g β) ((s.bt ids).env w g' β)/\Trans w w g g'/\aX6 (s.env w g β) ((s.bt ids).env w g' β) ids
 |[],g,s,h=>⟨g,h,cJ.refl _,Trans.refl _ _,λ_ hi=>by cases hi⟩
 |id::ids,g,s,h=>by
  obtain⟨g1,h1,e1,t1,f1⟩:=ajS h id;obtain⟨g2,h2,e2,t2,f2⟩:=fo ids h1;refine⟨g2,h2,e1.trans e2,t1.trans t2,λi hi v fr c hs pl hp j x hx hj=> ?_⟩;rcases cj.1 hi with rfl | hi
  ·exact e2.mem.has _ _ _ ⟨hx,f1 v fr c hs pl hp j x hx hj⟩
  ·obtain⟨fr',hs'⟩:=Zy (id:=id) hs;exact f2 i hi v fr' c hs' pl hp j x hx hj
theorem aly(s:AS)(id:Id):(s.freeze id).cg=s.cg:=by unfold AS.freeze;split <;> simp
theorem nF:∀(ids:List Id) (s:AS),(s.bt ids).cg=s.cg
 |[],_=>rfl
 |id::ids,s=>by rw[AS.bt,nF ids,aly]
theorem apS(s:AS)(id:Id)(q:Nat):(s.freeze id).dV q=s.dV q:=by
 unfold AS.freeze;split
 ·rename_i v b c h;cases id with
  |bh k=>rfl
  |new i j=>
   simp only[AS.bg,AS.dV];by_cases hq:i=q
   ·subst hq;simp only[AS.bQ]at h;by_cases hl:i < s.news.length
    ·rw[List.getElem?_set_self hl,bO hl];rw[aD,bO hl]at h ⊢;simp only[dK]at h ⊢;cases hh:s.news[i]with
     |nil=>rw[hh]at h;simp at h
     |cons x xs=>cases j <;> simp[fK]
    ·rw[List.set_eq_of_length_le (by omega)]
   ·rw[dW hq]
 ·rfl
theorem vG:∀(ids:List Id) (s:AS) (q:Nat),(s.bt ids).dV q=s.dV q
 |[],_,_=>rfl
 |id::ids,s,q=>by rw[AS.bt,vG ids,apS]
theorem aak{e:TypeId}{t:Ty}:∀ {p:List Ke} {n:Nat} {v:aA},(loc (.vec e t []) p).eval=some (n,v)->n=0/\v= .vec e t []
 |[],n,v,h=>by simp only[loc,ax,cv]at h;exact⟨h.1.symm,h.2.symm⟩
 | .arr::p,n,v,h=>by simp only[loc]at h;exact aak h
 | .idx i::p,n,v,h=>by simp[loc,bM]at h
 | .fst::p,n,v,h=>by simp only[loc,au]at h
 | .snd::p,n,v,h=>by simp only[loc,au]at h
theorem XR{k:uZ}{f:aA}{m:Nat}:∀ {p:List Ke} {n:Nat} {v:aA},(loc (.qX k f m) p).eval=some (n,v)->n=0/\v= .qX k f m
 |[],n,v,h=>by simp only[loc,ax,cv]at h;exact⟨h.1.symm,h.2.symm⟩
 | .arr::p,n,v,h=>by simp only[loc]at h;exact XR h
 | .idx i::p,n,v,h=>by simp only[loc,au]at h
 | .fst::p,n,v,h=>by simp only[loc,au]at h
 | .snd::p,n,v,h=>by simp only[loc,au]at h
theorem akk{k t:Ty}{l:List (k.den×t.den)}:∀ {p:List Ke} {n:Nat} {v:aA},(loc (.mp k t l) p).eval=some (n,v)->n=0/\v= .mp k t l
 |[],n,v,h=>by simp only[loc,ax,cv]at h;exact⟨h.1.symm,h.2.symm⟩
 | .arr::p,n,v,h=>by simp only[loc]at h;exact akk h
 | .idx i::p,n,v,h=>by simp only[loc,au]at h
 | .fst::p,n,v,h=>by simp only[loc,au]at h
 | .snd::p,n,v,h=>by simp only[loc,au]at h
theorem XQ{q:Id}{ver:Nat}{k t:Ty}{l:List (k.den×t.den)}{cu:Option (k.den×t.den)}:∀ {p:List Ke} {n:Nat} {v:aA},(loc (.sH q ver k t l cu) p).eval=some (n,v)->n=0/\v= .sH q ver k t l cu
 |[],n,v,h=>by simp only[loc,ax,cv]at h;exact⟨h.1.symm,h.2.symm⟩
 | .arr::p,n,v,h=>by simp only[loc]at h;exact XQ h
 | .idx i::p,n,v,h=>by simp only[loc,au]at h
 | .fst::p,n,v,h=>by simp only[loc,au]at h
 | .snd::p,n,v,h=>by simp only[loc,au]at h
theorem TK{E:Env}{s:AS}(hs:E.s=s.bQ)(ho:iG E){id:Id}{ver:Nat}{p:List Ke}{n:Nat}{t:Ty}{l:List t.den}(h:(s.row id ver p).eval=some (n,⟨t,l⟩)):
    ∃fr c,E.s id=some (.obj ver fr c)/\((E.β id=none/\l=[]/\n=0)\/∃pl cur e,E.β id=some pl/\E.w.heap[pl.b]? =some (.cells cur e (0,0))/\n+l.length*t.size<=cur.size/\
      bz (cW E t) ((cur.toList.drop n).take (l.length*t.size)) l/\
      ∀j,j < n+l.length*t.size->ZW c j):=by
  unfold AS.row at h;cases lK:s.obj id with
  |none=>rw[lK]at h;simp only[au]at h
  |some r=>
    obtain⟨v,fr,c⟩:=r;rw[lK]at h;obtain⟨h1,h2⟩:=aB.1 h;obtain⟨⟨n',v'⟩,h3,h4⟩:=av.1 h2;have hv:v=ver:=by simpa using h1
    subst hv;have cM:E.s id=some (.obj v fr c):=by rw[hs];exact dX lK
    refine⟨fr,c,cM,?_⟩;have hO:=ho id v fr c cM
    have auI:∀(pl:Pl) (cur:Array Value) (e:TypeId) (m:Nat) (t':Ty) (l':List t'.den) (n':Nat),E.β id=some pl->E.w.heap[pl.b]? =some (.cells cur e (0,0))->c.iy=false->
        V E (.d (.arr m t') l') ((cur.toList.drop n').take (aA.d (.arr m t') l').size)->n'+(aA.d (.arr m t') l').size<=cur.toList.length->(Out.ok (n',(⟨t',l'⟩:(t:Ty)×List t.den))).eval=some (n,⟨t,l⟩)->
        ∃pl cur e,E.β id=some pl/\E.w.heap[pl.b]? =some (.cells cur e (0,0))/\n+l.length*t.size<=cur.size/\bz (cW E t) ((cur.toList.drop n).take (l.length*t.size)) l/\
          ∀j,j < n+l.length*t.size->ZW c j:=by
      intro pl cur e m t' l' n' hp hh hn hv hl he;simp only[ax,cv]at he;obtain⟨rfl,he⟩:=he;obtain⟨rfl,he⟩:=he;simp only[V,cW]at hv;obtain⟨aVY,U8⟩:=hv;have tc:∀(t:Ty) (l:List t.den),l.length=m->(aA.d (.arr m t) l).size=l.length*t.size:=λt l hh=>by simp[aA.size,Ty.size,hh]
      rw[tc _ _ aVY]at U8 hl;exact⟨pl,cur,e,hp,hh,by simpa using hl,U8,λj _=>ZW.of hn j⟩
    by_cases hn:c.iy=false
    · right
      obtain⟨pl,cur,e,hp,hh,hg,hk,hV⟩:=hO.box hn;have hN:=Xz hk;generalize c.xv cur.size=N at hN hV;have hNl:(cur.toList.take N).length=N:=by rw[bq,cH];omega
      obtain⟨u,hu⟩:∃u,c.strip=u:=⟨_,rfl⟩;rw[hu]at hV h3;have aCy:∀m k:Nat,m+k<=(cur.toList.take N).length->((cur.toList.take N).drop m).take k=(cur.toList.drop m).take k/\m+k<=cur.toList.length:=λm k aQP=>by rw[hNl]at aQP;refine⟨?_,by rw[cH];omega⟩;rw[tm,gZ,fM (by omega)]
      rcases sK p u (cur.toList.take N) n' v' (VO.of hV) h3 with⟨rfl,rfl⟩ | ⟨hV',hle⟩
      · cases v' with
        |d t' x=>cases t' with
          |arr m t'=>
            have hs:=hV.size;have hc:=aCy 0 (aA.d (.arr m t') x).size (by omega);refine auI pl cur e m t' x 0 hp hh hn ?_ hc.2 (by simpa only using h4)
            rw[<-hc.1,aF,aW (by omega)];exact hV
          |_=>simp only[au]at h4
        |vec=>simp only[V]at hV
        |_=>simp only[au]at h4
      · cases v' with
        |d t' x=>cases t' with
          |arr m t'=>
            have hc:=aCy _ _ hle;exact auI pl cur e m t' x n' hp hh hn (by rw[<-hc.1];exact hV') hc.2 (by simpa only using h4)
          |_=>simp only[au]at h4
        |vec=>simp only[V]at hV'
        |_=>simp only[au]at h4
    · cases c <;> first
        | (exact absurd rfl hn)
        | (obtain⟨rfl,rfl⟩:=akk h3
           simp only[au]at h4)
        | (obtain⟨rfl,rfl⟩:=XQ h3
           simp only[au]at h4)
        | (obtain⟨rfl,rfl⟩:=XR h3
           simp only[au]at h4)
        |skip
      rename_i e t0 l0;obtain⟨hz,hO⟩:=hO;cases hp:E.β id with
      |none=>
        rw[hp]at hO;have aYU:l0=[]:=hO;subst aYU;obtain⟨rfl,rfl⟩:=aak h3;simp only[ax,cv]at h4;obtain⟨rfl,he⟩:=h4;obtain⟨rfl,he⟩:=he;exact .inl ⟨rfl,rfl,rfl⟩
      |some pl=>
        rw[hp]at hO;obtain⟨cur,k,q1,q2,q3,q4,q5,q6,q7,q8⟩:=hO;right;have hlen:(cur.toList.take (l0.length*t0.size)).length=l0.length*t0.size:=bz.length (λc x hx=>cW.size hx) q8;have aJQ:l0.length*t0.size<=cur.size:=by rw[q2];exact cO _ q3
        rcases sK (E:=E) p (.vec e t0 l0) (cur.toList.take (l0.length*t0.size)) n' v' q8 h3 with⟨rfl,rfl⟩ | ⟨hV',hle⟩
        · simp only[ax,cv]at h4
          obtain⟨rfl,he⟩:=h4;obtain⟨rfl,he⟩:=he;exact⟨pl,cur,e,rfl,q1,by omega,by simpa using q8,λj hj=>by show j < l.length*t.size;omega⟩
        · have hle':=hle
          rw[hlen]at hle';rw[tm,gZ,fM (by omega)]at hV';cases v' with
          |d t' x=>cases t' with
            |arr m t'=>
              simp only[ax,cv]at h4;obtain⟨rfl,he⟩:=h4;obtain⟨rfl,he⟩:=he;simp only[V,cW]at hV';obtain⟨aVY,U8⟩:=hV';have tc:∀(t:Ty) (l:List t.den),l.length=m->(aA.d (.arr m t) l).size=l.length*t.size:=λt l hh=>by simp[aA.size,Ty.size,hh]
              rw[tc _ _ aVY]at U8 hle';refine⟨pl,cur,e,rfl,q1,by omega,U8,λj hj=> ?_⟩;show j < l0.length*t0.size;omega
            |_=>simp only[au]at h4
          |vec=>simp only[V]at hV'
          |_=>simp only[au]at h4
theorem MD{E:Env}{t:Ty}{cs:List Value}{l:List t.den}(h:bz (cW E t) cs l)(i len:Nat):bz (cW E t) ((cs.drop (i*t.size)).take (len*t.size)) (cut l i len):=bz.take (λ_ _ hx=>hx.size) len (bz.drop (λ_ _ hx=>hx.size) i h)
theorem EI{α:Type}{l:List α}{i len:Nat}(h:i+len<=l.length):(cut l i len).length=len:=by simp[cut];omega
theorem ar0{E E':Env}{s:AS}(hs:E.s=s.bQ)(ho:iG E)(he:cJ E E'){id:Id}{ver c i len n:Nat}{p:List Ke}{t':Ty}{l:List t'.den}{cs:List Value}
  (h1:(s.row id ver p).eval=some (n,⟨t',l⟩)) (h3:decide (n+i*t'.size=c/\i+len<=l.length)=true) (hv:V E (.bu id ver p c i len) cs) (hf:aX6 E E' (aA.bu id ver p c i len).shared):cW E' (.slice t') cs (cut l i len):=by
 simp only[ba]at h3;obtain⟨hc,hlen⟩:=h3;obtain⟨fr,c0,cM,rY⟩:=TK hs ho h1;simp only[V]at hv;obtain⟨a,cap,aCx,hle,qu,hb,fk⟩:=hv;have fk:=fk ⟨fr,c0,cM⟩;have aOU:(cut l i len).length=len:=EI hlen;simp only[cW];refine⟨a,cap,?_⟩;rcases rY with⟨hp,hl,_⟩ | ⟨pl,cur,e,hp,hh,tc,vY,hbound⟩
 ·rw[hp]at fk;simp only at fk;obtain⟨rfl,rfl,rfl⟩:=fk;refine⟨[],?_,by omega,by omega,λ_ _ hh=>by simp at hh,?_⟩
  ·rw[aOU];exact aCx
  ·have:cut l i 0=[]:=by simp[cut]
   rw[this];rfl
 ·rw[hp]at fk;simp only at fk;refine⟨((((cur.toList.drop n).take (l.length*t'.size)).drop (i*t'.size)).take (len*t'.size)),by rw[aOU];exact aCx,by omega,by rw[aOU];exact qu,?_,(MD vY i len).mono λ_ _ hx=>hx.mono he.mem⟩;have hmul:(i+len)*t'.size<=l.length*t'.size:=cO _ hlen;rw[eg]at hmul;rw[abg _ _ _ _ _ hmul];intro j v hj;rw[cZ]at hj;split at hj
  ·rename_i aVM;rw[fJ,hc]at hj;have ba9:0 < len:=by
    rcases iF len with h0 | h0
    ·subst h0;simp at aVM
    ·exact h0
   refine⟨pl.b,c,fk.1 (.inl ba9),?_⟩;refine hf id (by simp[aA.shared]) ver fr c0 cM pl hp (c+j) v ?_ (hbound _ (by omega))
   rw[cell_of_row E.w pl.b (c+j) cur e (0,0) hh];simpa using hj
  ·cases hj
theorem xn{E E':Env}{s:AS}(hs:E.s=s.bQ)(ho:iG E)(he:cJ E E'):∀(v:aA) (t:Ty) (x:t.den) (cs:List Value),V E v cs->(s.iW t v).eval=some x->aX6 E E' v.shared->cW E' t cs x
 | .d t' x',t,x,cs,hv,h,_=>by
  have h':(Out.opt (Hm t' t x')).eval=some x:=by cases t <;> simpa only[AS.iW]using h
  simp only[V]at hv;exact Ew (jW.1 h') (hv.mono he.mem)
 | .cV,.slice t,x,cs,hv,h,_=>by simp only[AS.iW,ax]at h;subst h;simp only[V]at hv;simp only[cW];exact⟨none,0,[],by simpa using hv,by simp,by simp,λi v hh=>by simp at hh,rfl⟩
 | .cV,.gM t,x,cs,hv,h,_=>by simp only[AS.iW,ax]at h;subst h;simp only[V]at hv;simp only[cW];exact⟨λ_=>hv,λl hl=>(by cases hl)⟩
 | .bu id ver p c i len,.gM t,x,cs,hv,h,hf=>by simp only[AS.iW]at h;obtain⟨⟨n,t',l⟩,h1,h2⟩:=av.1 h;obtain⟨h3,h4⟩:=bM.1 h2;exact Ew (jW.1 h4) (ar0 hs ho he h1 h3 hv hf)
 | .bu id ver p c i len,.slice t,x,cs,hv,h,hf=>by simp only[AS.iW]at h;obtain⟨⟨n,t',l⟩,h1,h2⟩:=av.1 h;obtain⟨h3,h4⟩:=bM.1 h2;exact Ew (jW.1 h4) (ar0 hs ho he h1 h3 hv hf)
 | .pr a b,.pair ta tb,x,cs,hv,h,hf=>by simp only[AS.iW]at h;obtain⟨x1,h1,h2⟩:=av.1 h;obtain⟨x2,h3,h4⟩:=av.1 h2;obtain rfl:=ax.1 h4;simp only[V]at hv;obtain⟨ca,cb,e,ha,hb⟩:=hv;simp only[cW];exact⟨ca,cb,e,xn hs ho he a ta x1 ca ha h1 (λi hi=>hf i (by simp[aA.shared,hi])),xn hs ho he b tb x2 cb hb h3 (λi hi=>hf i (by simp[aA.shared,hi]))⟩
 | .cV,.int _,_,_,_,h,_ | .cV,.bool,_,_,_,h,_ | .cV,.str,_,_,_,h,_ | .cV,.unit,_,_,_,h,_ | .cV,.pair _ _,_,_,_,h,_ | .cV,.arr _ _,_,_,_,h,_ | .cV,.tR _,_,_,_,h,_=>by simp only[AS.iW,au]at h
 | .bu ..,.int _,_,_,_,h,_ | .bu ..,.bool,_,_,_,h,_ | .bu ..,.str,_,_,_,h,_ | .bu ..,.unit,_,_,_,h,_ | .bu ..,.pair _ _,_,_,_,h,_ | .bu ..,.arr _ _,_,_,_,h,_ | .bu ..,.tR _,_,_,_,h,_=>by simp only[AS.iW,au]at h
 | .pr _ _,.int _,_,_,_,h,_ | .pr _ _,.bool,_,_,_,h,_ | .pr _ _,.str,_,_,_,h,_ | .pr _ _,.unit,_,_,_,h,_ | .pr _ _,.slice _,_,_,_,h,_ | .pr _ _,.arr _ _,_,_,_,h,_ | .pr _ _,.gM _,_,_,_,h,_ | .pr _ _,.tR _,_,_,_,h,_=>by simp only[AS.iW,au]at h
 | .undef,t,_,_,_,h,_=>by cases t <;> simp only[AS.iW,au]at h
 | .gone,t,_,_,_,h,_=>by cases t <;> simp only[AS.iW,au]at h
 | .qC,t,_,_,_,h,_=>by cases t <;> simp only[AS.iW,au]at h
 | .xc,t,_,_,_,h,_=>by cases t <;> simp only[AS.iW,au]at h
 | .yl ..,t,_,_,_,h,_ | .qX ..,t,_,_,_,h,_=>by cases t <;> simp only[AS.iW,au]at h
 | .CI,t,_,_,_,h,_=>by cases t <;> simp only[AS.iW,au]at h
 | .sb _,t,_,_,_,h,_=>by cases t <;> simp only[AS.iW,au]at h
 | .ptr ..,t,_,_,_,h,_=>by cases t <;> simp only[AS.iW,au]at h
 | .dL ..,t,_,_,_,h,_=>by cases t <;> simp only[AS.iW,au]at h
 | .fn ..,t,_,_,_,h,_=>by cases t <;> simp only[AS.iW,au]at h
 | .cons ..,t,_,_,_,h,_=>by cases t <;> simp only[AS.iW,au]at h
 | .nil,t,_,_,_,h,_=>by cases t <;> simp only[AS.iW,au]at h
 | .vec ..,t,_,_,_,h,_=>by cases t <;> simp only[AS.iW,au]at h
 | .bx ..,t,_,_,_,h,_ | .cm ..,t,_,_,_,h,_ | .mp ..,t,_,_,_,h,_ | .sH ..,t,_,_,_,h,_=>by cases t <;> simp only[AS.iW,au]at h
theorem Cm{s:AS}{t:Ty}{v:aA}{x:t.den}(h:(s.iW t v).eval=some x):v.eL=true:=by
 cases v <;> first
  |rfl
  | (cases t <;> simp only[AS.iW,au]at h)
theorem adg{s:AS}{t:Ty}{v:aA}{x:t.den}(h:(s.iW t v).eval=some x):v.agg=t.agg:=by
 cases v with
 |d t' x'=>
  have h':(Out.opt (Hm t' t x')).eval=some x:=by cases t <;> simpa only[AS.iW]using h
  exact agp (jW.1 h')
 |_=>cases t <;> first | rfl | (simp only[AS.iW,au]at h)
theorem A7{C:Ctx}{g:Nat->lS}{β:Id->Option Pl}{s:AS}{a:Act}{w:World}(h:Inv C g β s a w){v:aA}{y:Value}(hv:VS (s.env w g β) v y){t:Ty}{x:t.den}(ht:(s.iW t v).eval=some x):
  ∃g',Inv C g' β (s.bt v.shared) a w/\cJ (s.env w g β) ((s.bt v.shared).env w g' β)/\Trans w w g g'/\
   ∃cs,cW ((s.bt v.shared).env w g' β) t cs x/\fH t.agg cs y:=by
 obtain⟨g',h1,h2,h3,h4⟩:=fo v.shared h;obtain⟨cs,hV,hO⟩:=hv.eL (Cm ht);exact⟨g',h1,h2,h3,cs,xn rfl h.bI h2 v t x cs hV ht h4,by rw[<-adg ht];exact hO⟩
theorem Zw{α:Type}{R:List Value->α->Prop}{f:α->List Value->Option (List Value)}(hf:∀x cs r,f x cs=some r->∃c,cs=c++r/\R c x):
  ∀(l:List α) (cs r:List Value),aI6 f l cs=some r->∃c,cs=c++r/\bz R c l
 |[],cs,r,h=>by simp only[aI6,ay]at h;exact⟨[],by simp[h],rfl⟩
 |x::xs,cs,r,h=>by
  simp only[aI6]at h;cases hx:f x cs with
  |none=>rw[hx]at h;cases h
  |some r1=>
   rw[hx]at h;obtain⟨c1,e1,h1⟩:=hf x cs r1 hx;obtain⟨c2,e2,h2⟩:=Zw hf xs r1 r h;exact⟨c1++c2,by rw[e1,e2,aC],c1,c2,rfl,h1,h2⟩
theorem EN(E:Env):∀(t:Ty) (x:t.den) (cs r:List Value),yG t x cs=some r->∃c,cs=c++r/\cW E t c x
 | .int k,x,cs,r,h=>by
  cases cs with
  |nil=>simp[yG]at h
  |cons v r'=>
   cases v <;> simp only[yG]at h <;> try (cases h;done)
   rename_i k' n;split at h
   ·rename_i h1 h2;simp at h1 h2 h;subst h1 h2 h;exact⟨[.int k n],rfl,by simp[cW]⟩
   ·cases h
 | .bool,x,cs,r,h=>by
  cases cs with
  |nil=>simp[yG]at h
  |cons v r'=>
   cases v <;> simp only[yG]at h <;> try (cases h;done)
   rename_i b;split at h
   ·rename_i h1;simp at h1 h;subst h1 h;exact⟨[.bool b],rfl,by simp[cW]⟩
   ·cases h
 | .str,x,cs,r,h=>by
  cases cs with
  |nil=>simp[yG]at h
  |cons v r'=>
   cases v <;> simp only[yG]at h <;> try (cases h;done)
   rename_i b;split at h
   ·rename_i h1;simp at h1 h;subst h1 h;exact⟨[.string b],rfl,by simp[cW]⟩
   ·cases h
 | .slice t,x,cs,r,h=>by
  cases x with
  |cons _ _=>simp[yG]at h
  |nil=>
   cases cs with
   |nil=>simp[yG]at h
   |cons v r'=>
    unfold yG at h;split at h <;> try (cases h;done)
    all_goals simp_all
    exact⟨[.slice none 0 0],rfl,by simp only[cW];exact⟨none,0,[],rfl,by simp,by simp,λi v hh=>by simp at hh,rfl⟩⟩
 | .gM t,x,cs,r,h=>by
  cases x with
  |some _=>simp[yG]at h
  |none=>
   cases cs with
   |nil=>simp[yG]at h
   |cons v r'=>
    unfold yG at h;split at h <;> try (cases h;done)
    all_goals simp_all
    exact⟨[.slice none 0 0],rfl,by simp[cW]⟩
 | .tR t,x,cs,r,h=>by
  cases x with
  |some _=>simp[yG]at h
  |none=>
   cases cs with
   |nil=>simp[yG]at h
   |cons v r'=>
    unfold yG at h;split at h <;> try (cases h;done)
    all_goals simp_all
    exact⟨[.pointer none],rfl,by simp[cW]⟩
 | .unit,x,cs,r,h=>by simp only[yG,ay]at h;exact⟨[],by simp[h],by simp[cW]⟩
 | .pair a b,x,cs,r,h=>by
  simp only[yG]at h;cases hx:yG a x.1 cs with
  |none=>rw[hx]at h;cases h
  |some r1=>
   rw[hx]at h;obtain⟨c1,e1,h1⟩:=EN E a x.1 cs r1 hx;obtain⟨c2,e2,h2⟩:=EN E b x.2 r1 r h;exact⟨c1++c2,by rw[e1,e2,aC],by simp only[cW];exact⟨c1,c2,rfl,h1,h2⟩⟩
 | .arr n t,x,cs,r,h=>by
  simp only[yG]at h;split at h
  ·rename_i h1;obtain⟨c,e,hc⟩:=Zw (λx cs r hh=>EN E t x cs r hh) _ _ _ h;exact⟨c,e,by simp only[cW];exact⟨by simpa using h1,hc⟩⟩
  ·cases h
theorem aur(E:Env):∀(a:aA) (cs r:List Value),WW a cs=some r->∃c,cs=c++r/\V E a c:=by
 intro a
 induction a with
 |d t x=>
  intro cs r h;simp only[WW]at h;obtain⟨c,e,hc⟩:=EN E t x cs r h;exact⟨c,e,by simpa only[V]using hc⟩
 |pr a b iha ihb=>
  intro cs r h;simp only[WW]at h;cases hx:WW a cs with
  |none=>rw[hx]at h;cases h
  |some r1=>
   rw[hx]at h;obtain⟨c1,e1,h1⟩:=iha cs r1 hx;obtain⟨c2,e2,h2⟩:=ihb r1 r h;exact⟨c1++c2,by rw[e1,e2,aC],by simp only[V];exact⟨c1,c2,rfl,h1,h2⟩⟩
 |cV=>intro cs r h;unfold WW at h;split at h <;> simp_all <;> exact⟨[.slice none 0 0],rfl,by simp[V]⟩
 |qC=>intro cs r h;unfold WW at h;split at h <;> simp_all <;> exact⟨[.pointer none],rfl,by simp[V]⟩
 |xc=>intro cs r h;unfold WW at h;split at h <;> simp_all <;> exact⟨[.nilFunc],rfl,by simp[V]⟩
 |CI=>intro cs r h;unfold WW at h;split at h <;> simp_all <;> exact⟨[.map none],rfl,by simp[V]⟩
 |_=>intro cs r h;simp[WW]at h
theorem vJ{P:Program}{T:TypeId}{z:aA}(h:ams P T z=true)(E:Env):
  ∃i zv,P.info? T=some i/\i.zero=some zv/\V E z zv.cells.toList/\fH z.agg zv.cells.toList zv:=by
 unfold ams at h;split at h <;> try (cases h;done)
 rename_i i hi;split at h <;> try (cases h;done)
 rename_i zv hz;simp only[aq,dp]at h;obtain⟨h1,h2⟩:=h;split at h1 <;> try (cases h1;done)
 rename_i he;obtain⟨c,e,hV⟩:=aur E z _ _ he;rw[bj]at e;rw[<-e]at hV;refine⟨i,zv,hi,hz,hV,?_⟩;cases aoP:z.agg with
 |true=>
  rw[aoP]at h2;cases zv <;> simp[sa]at h2;simp[fH,Value.cells]
 |false=>
  rw[aoP]at h2;cases zv <;> first | (simp[sa]at h2;done) | simp[fH,Value.cells]
end Go.Ab
namespace Go.Ab
def Fr(r:Option Nat):Fence:= {Fence.wide with round:=r}
def fy(P:Program)(o:Oper)(a:Act)(w:World)(K:Act->World->Prop):Prop:=(∃x w',(execOp a.eval o).run P w= .ok (.value x) w'/\K (a.put o.dst x) w')\/(∃w',(execOp a.eval o).run P w= .ok .skip w'/\K (a.put o.dst undef) w')\/(∃f args w',(execOp a.eval o).run P w= .ok (.enter f args) w'/\Calls P f args w' λe w''=>∃x,e= .returned x/\K (a.put o.dst x) w'')\/(∃l f tmps as b w',(execOp a.eval o).run P w= .ok (.round l f tmps as b) w'/\∀r n,RoundIn (Fr r) n P l f tmps as b w' λe w''=>∃x,e= .returned x/\K (a.put o.dst x) w'')
theorem fy.plain{P:Program}{o:Oper}{a:Act}{w:World}{K:Act->World->Prop}(h:fy P o a w K)(c:Call):o.op≠ .defer c:=λho=>by
 have hd:∀x w',(execOp a.eval o).run P w= .ok x w'->∃d,x= .defer d:=λx w' hx=>by
  simp only[execOp,ho,Sem.run_bind]at hx;cases hr:(resolve a.eval c o.type).run P w with
  |ok d w1=>
   rw[hr]at hx;simp only[Result.andThen_ok,Sem.run_pure,Result.ok.injEq]at hx;exact⟨d,hx.1.symm⟩
  |halt _ _=>rw[hr]at hx;simp[Result.andThen]at hx
 rcases h with⟨x,w',hr,_⟩ | ⟨w',hr,_⟩ | ⟨f,args,w',hr,_⟩ | ⟨l,f,tmps,as,b,w',hr,_⟩
 ·obtain⟨d,e⟩:=hd _ _ hr;cases e
 ·obtain⟨d,e⟩:=hd _ _ hr;cases e
 ·obtain⟨d,e⟩:=hd _ _ hr;cases e
 ·obtain⟨d,e⟩:=hd _ _ hr;cases e
theorem fy.wpIn{r:Option Nat}{n:Nat}{P:Program}{o:Oper}{a:Act}{w:World}{K:Act->World->Prop}{Q:Exit->Act->World->Prop}(h:fy P o a w K):o.wpIn (Fr r) n P a w K Q:=by
 have hp:=h.plain;refine⟨λ_ _=>trivial,?_⟩;rw[Oper.semAt_eq _ _ _ hp];rcases h with⟨x,w',hr,hk⟩ | ⟨w',hr,hk⟩ | ⟨f,args,w',hr,hk⟩ | ⟨l,f,tmps,as,b,w',hr,hk⟩;rotate_left 3
 ·rw[hr,Oper.uponIn_round];refine⟨λh=>(by cases h),(hk r (n - 1)).mono λe w'' ⟨x,he,hx⟩=> ?_⟩;subst he;exact hx
 ·rw[hr,Oper.uponIn_value];exact hk
 ·rw[hr,Oper.uponIn_skip];exact hk
 ·rw[hr,Oper.uponIn_enter];refine⟨λh=>(by cases h),?_⟩;have h1:CallsIn (Fr r) (n - 1) P f args w' _:=callsIn_wide.2 hk;refine h1.mono λe w'' ⟨x,he,hx⟩=> ?_
  subst he;exact hx
theorem fy.mono{P:Program}{o:Oper}{a:Act}{w:World}{K K':Act->World->Prop}(h:fy P o a w K)(hk:∀a w,K a w->K' a w):fy P o a w K':=by
 rcases h with⟨x,w',hr,h⟩ | ⟨w',hr,h⟩ | ⟨f,args,w',hr,h⟩ | ⟨l,f,tmps,as,b,w',hr,h⟩
 ·exact .inl ⟨x,w',hr,hk _ _ h⟩
 ·exact .inr (.inl ⟨w',hr,hk _ _ h⟩)
 ·exact .inr (.inr (.inl ⟨f,args,w',hr,h.mono λe w'' ⟨x,he,hx⟩=>⟨x,he,hk _ _ hx⟩⟩))
 ·exact .inr (.inr (.inr ⟨l,f,tmps,as,b,w',hr,λr n=>(h r n).mono λe w'' ⟨x,he,hx⟩=>⟨x,he,hk _ _ hx⟩⟩))
section
variable {P:Program} {C:Ctx} {g:Nat->lS} {β:Id->Option Pl} {s:AS} {a:Act} {w:World} {o:Oper}
theorem Inv.value(h:Inv C g β s a w){v:aA}{x:Value}(hv:VS (s.env w g β) v x)(hr:(execOp a.eval o).run P w= .ok (.value x) w):fy P o a w (ia C (s.put o.dst v)):= .inl ⟨x,w,hr,g,β,h.put o.dst hv⟩
theorem dR{f:Sem Value}{x:Value}{w':World}(he:execOp a.eval o=(do pure (.value (<-f))))(hf:f.run P w= .ok x w'):(execOp a.eval o).run P w= .ok (.value x) w':=by rw[he,Sem.run_bind,hf];rfl
theorem agE{f:Sem Unit}{w':World}(he:execOp a.eval o=(do f;pure .skip))(hf:f.run P w= .ok () w'):(execOp a.eval o).run P w= .ok .skip w':=by rw[he,Sem.run_bind,hf];rfl
theorem vb{E:Env}{k:IntKind}{n:Int}{y:Value}(h:VS E (.d (.int k) n) y):y= .int k n:=by obtain⟨cs,hv,ho⟩:=h;simp only[V,cW]at hv;have ho':cs=[y]:=ho;rw[hv]at ho';simpa using ho'.symm
theorem Xy{E:Env}{b:Bool}{y:Value}(h:VS E (.d .bool b) y):y= .bool b:=by obtain⟨cs,hv,ho⟩:=h;simp only[V,cW]at hv;have ho':cs=[y]:=ho;rw[hv]at ho';simpa using ho'.symm
theorem I4{E:Env}{b:ByteArray}{y:Value}(h:VS E (.d .str b) y):y= .string b:=by obtain⟨cs,hv,ho⟩:=h;simp only[V,cW]at hv;have ho':cs=[y]:=ho;rw[hv]at ho';simpa using ho'.symm
theorem lz{E:Env}(k:IntKind)(n:Int):VS E (.d (.int k) n) (.int k n):=⟨[.int k n],by simp[V,cW],rfl⟩
theorem vM{E:Env}(b:Bool):VS E (.d .bool b) (.bool b):=⟨[.bool b],by simp[V,cW],rfl⟩
theorem aiD{E:Env}(b:ByteArray):VS E (.d .str b) (.string b):=⟨[.string b],by simp[V,cW],rfl⟩
theorem ay3{T:TypeId}{d:TypeDesc}(h:P.underlying T=some d):∃i,P.info? T=some i:=by
 unfold Program.underlying at h;split at h
 ·rename_i h';exact⟨_,h'⟩
 ·rename_i i _ h';exact⟨_,h'⟩
 ·cases h
theorem run_sizeOf{T:TypeId}{i:TypeInfo}(h:P.info? T=some i)(w:World):(sizeOf T).run P w= .ok i.size w:=by simp[sizeOf,typeInfo,h]
theorem mQ{T:TypeId}{i:TypeInfo}(h:P.info? T=some i):P.cellsOf T=i.size:=by simp[Program.cellsOf,h]
theorem rX{T:TypeId}{v:aA}(h:fits P T v=true):v.eL=true/\∃i,P.info? T=some i/\i.size=v.size/\∀w,(isAgg T).run P w= .ok v.agg w:=by
 unfold fits at h;simp only[aq,dp]at h;obtain⟨⟨h1,h2⟩,h3⟩:=h;cases hu:P.underlying T with
 |none=>rw[hu]at h3;cases h3
 |some d=>
  obtain⟨i,hi⟩:=ay3 hu;refine⟨h1,i,hi,by rw[mQ hi]at h2;exact h2,λw=> ?_⟩;rw[hu]at h3;unfold isAgg;rw[Sem.run_bind,run_underlying hu w];cases d <;> simp at h3 <;> simp[h3]
theorem AY{T:TypeId}{v:aA}(hf:fits P T v=true){b off:Nat}{cs:List Value}(hl:cs.length=v.size)(hc:∀j x,cs[j]? =some x->w.cell? ⟨b,off+j,none⟩=some x):
  ∃y,(loadVar T ⟨b,off,none⟩).run P w= .ok y w/\fH v.agg cs y:=by
 obtain⟨_,i,hi,hs,aoP⟩:=rX hf;unfold loadVar;rw[Sem.run_bind,aoP w];simp only[Result.andThen_ok];have Dw:∀j x,cs[j]? =some x->w.cell? ((⟨b,off,none⟩:Addr).add j)=some x:=λj x hj=>by rw[Addr.add_lit];exact hc j x hj
 cases ha:v.agg with
 |true=>
  refine⟨.agg cs.toArray,?_,rfl⟩;simp only[bG,Sem.run_bind,run_sizeOf hi,Result.andThen_ok,hs,<-hl,run_loadCells_list w _ cs Dw];rfl
 |false=>
  have h1:v.size=1:=aA.arQ ha;obtain⟨y,rfl⟩:∃y,cs=[y]:=by
   match cs,hl with
   |[y],_=>exact⟨y,rfl⟩
   |[],hh=>simp[h1]at hh
   |_::_::_,hh=>simp[h1]at hh
  refine⟨y,?_,rfl⟩;have:=hc 0 y rfl;rw[cd]at this;simp[this]
theorem Gr{T:TypeId}{v:aA}{E:Env}(hf:fits P T v=true){cs:List Value}{y:Value}(hV:V E v cs)(ho:fH v.agg cs y){b off:Nat}{cur:Array Value}{e:TypeId}
  (hh:w.heap[b]? =some (.cells cur e (0,0))) (hle:off+cs.length<=cur.size):
  (storeVar T ⟨b,off,none⟩ y).run P w= .ok () (w.setRow b (dq cur.toList off cs).toArray):=by
 obtain⟨_,i,hi,hs,_⟩:=rX hf;have aCx:y.cells=cs.toArray:=ho.cells hV.one;have hl:=hV.size;have ml:=run_storeCells_at P b off e cs 0 cur w hh (by simpa using hle) hV.one;simp only[cd]at ml;unfold storeVar;simp only[aCx,Sem.run_bind,run_sizeOf hi,Result.andThen_ok,gX,hl,hs,ne_eq,not_true_eq_false,bp];simpa[dq]using ml
theorem qM(w:World)(ob:Obj){b:Nat}(h:b < w.heap.size):(w.alloc ob).heap[b]? =w.heap[b]? :=by
 show(w.heap.push ob)[b]? =w.heap[b]?
 rw[Array.getElem?_push,if_neg (Nat.ne_of_lt h)]
theorem tt(w:World)(ob:Obj):(w.alloc ob).heap[w.heap.size]? =some ob:=by
 show(w.heap.push ob)[w.heap.size]? =some ob
 simp
theorem Trans.alloc(w:World)(g:Nat->lS)(ob:Obj)(l:lS):Trans w (w.alloc ob) g (ni g w.heap.size l):=by
 refine⟨rfl,rfl,⟨rfl,aw _⟩,by simp,λb hb=> ?_⟩;rw[fi _ _ _ (by omega),qM w ob hb];cases g b with
 |free=>exact⟨rfl,rfl⟩
 |own o k=>cases o with
  |dZ=>exact⟨rfl,rfl⟩
  |id i=>exact⟨.inr ⟨i,k,rfl,aw _⟩,λoff v _ hv=>by rw[World.cell?_alloc_lt w ob _ hb];exact hv⟩
theorem Trans.drew(w:World)(g:Nat->lS):Trans w w.drew g g:=Trans.refl w g |> λh=>⟨h.os,h.tape,⟨h.output.1,oo _⟩,h.size,h.Sq⟩
theorem iG.same{w':World}{g':Nat->lS}(h:iG (s.env w g β))(he:cJ (s.env w g β) (s.env w' g' β))(hb:∀i ver fr c pl,s.bQ i=some (.obj ver fr c)->β i=some pl->w'.heap[pl.b]? =w.heap[pl.b]? /\g' pl.b=g pl.b):iG (s.env w' g' β):=λi ver fr c hi=>(h i ver fr c hi).mono he rfl (λpl hp=>hb i ver fr c pl hi hp) λq vq k v l hq _=>⟨⟨k,v,l,hq⟩,λpl hp=>hb q vq true _ pl hq hp⟩
theorem cJ.same{w':World}{g':Nat->lS}(ht:Trans w w' g g'):cJ (s.env w g β) (s.env w' g' β):=⟨Trans.mem ht,λ_ _ h=>h,λ_ _ _ h=>⟨h,rfl⟩⟩
theorem Inv.Jv(h:Inv C g β s a w)(ob:Obj):Inv C (ni g w.heap.size .free) β s a (w.alloc ob):=by have ht:=Trans.alloc w g ob .free;have he:cJ (s.env w g β) (s.env (w.alloc ob) (ni g w.heap.size .free) β):=cJ.same ht;refine h.step rfl ht he (iG.same h.bI he λi ver fr c pl hi hp=> ?_);have hl:=((h.bI i ver fr c hi).label (pl:=pl) hp).1;have hl':pl.b < w.heap.size:=hl;exact⟨qM w ob hl',fi _ _ _ (by omega)⟩
theorem Inv.drew(h:Inv C g β s a w):Inv C g β s a w.drew:=by have ht:=Trans.drew w g;have he:cJ (s.env w g β) (s.env w.drew g β):=cJ.same ht;exact h.step rfl ht he (iG.same h.bI he λ_ _ _ _ _ _ _=>⟨rfl,rfl⟩)
theorem ka{q:Nat}(h:s.dV q=true):(∀j,s.bQ (.new q j)=none)/\q < s.news.length:=by
 unfold AS.dV at h;split at h
 ·rename_i hn;refine⟨λj=> ?_,(dC.1 hn).1⟩;simp[AS.bQ,aD,hn]
 ·cases h
theorem yI{q:Nat}(hq:q < s.news.length)(es:List dB)(j:Nat):(s.born q es).bQ (.new q j)=es[j]? :=by simp[AS.bQ,AS.born,aD,hq]
theorem iS{q:Nat}(es:List dB){id:Id}(h:∀j,id≠ .new q j):(s.born q es).bQ id=s.bQ id:=by
 cases id with
 |bh k=>rfl
 |new i j=>
  have:i≠q:=λe=>h j (by rw[e])
  simp only[AS.bQ,AS.born,aD];rw[dW (Ne.symm this)]
def Jt(β:Id->Option Pl)(id:Id)(p:Option Pl):Id->Option Pl:=λi=>if i=id then p else β i
@[simp] theorem jO(β:Id->Option Pl)(id:Id)(p:Option Pl):Jt β id p id=p:=by simp[Jt]
theorem Bb(β:Id->Option Pl)(id:Id)(p:Option Pl){i:Id}(h:i≠id):Jt β id p i=β i:=by simp[Jt,h]
theorem Inv.Sr(h:Inv C g β s a w){q:Nat}(hq:s.dV q=true){w':World}{g':Nat->lS}{c:aA}{p:Option Pl}(ht:Trans w w' g g')
  (hb:∀b,b < w.heap.size->w'.heap[b]? =w.heap[b]? /\g' b=g b)
  (ho:cJ (s.env w g β) ((s.born q [.obj 0 false c]).env w' g' (Jt β (.new q 0) p))->wQ ((s.born q [.obj 0 false c]).env w' g' (Jt β (.new q 0) p)) (.new q 0) false c):
  Inv C g' (Jt β (.new q 0) p) (s.born q [.obj 0 false c]) a w'/\cJ (s.env w g β) ((s.born q [.obj 0 false c]).env w' g' (Jt β (.new q 0) p)):=by
 obtain⟨hv,hl⟩:=ka hq;have gg:∀id,s.bQ id≠none->∀j,id≠ .new q j:=λid cR j e=>cR (by rw[e];exact hv j)
 have he:cJ (s.env w g β) ((s.born q [.obj 0 false c]).env w' g' (Jt β (.new q 0) p)):=by
  refine⟨Trans.mem ht,λid ver aoR=> ?_,λid ver aoR hc=> ?_⟩
  ·have cR:=gg id aoR.1;have e:=iS (s:=s) [.obj 0 false c] cR;exact⟨by show(s.born q _).bQ id≠none;rw[e];exact aoR.1,λv fr c' hh=>aoR.2 v fr c' (e.symm.trans hh)⟩
  ·have cR:=gg id aoR.1;have e:=iS (s:=s) [.obj 0 false c] cR;obtain⟨fr,c',hc⟩:=hc;exact⟨⟨fr,c',e.symm.trans hc⟩,Bb _ _ _ (cR 0)⟩
 refine⟨h.step rfl ht he λid ver fr c' cR=> ?_,he⟩;have hid':(s.born q [.obj 0 false c]).bQ id=some (.obj ver fr c'):=cR;by_cases hi:∃j,id= .new q j
 ·obtain⟨j,rfl⟩:=hi;rw[yI hl]at hid';cases j with
  |zero=>
   simp only[fF,ay,dB.obj.injEq]at hid';obtain⟨rfl,rfl,rfl⟩:=hid';exact ho he
  |succ j=>simp at hid'
 ·have hi':∀j,id≠ .new q j:=λj e=>hi ⟨j,e⟩
  rw[iS _ hi']at hid';refine(h.bI id ver fr c' hid').mono he (Bb _ _ _ (hi' 0)) (λpl hp=> ?_) λq2 vq k v l SU _=> ?_
  ·exact hb pl.b ((h.bI id ver fr c' hid').label (pl:=pl) hp).1
  ·have bbm:s.bQ q2=some (.obj vq true (.mp k v l)):=SU;refine⟨⟨k,v,l,by show(s.born q _).bQ q2=_;rw[iS _ (gg q2 (by rw[bbm];simp))];exact bbm⟩,λpl hp=>hb pl.b ((h.bI q2 vq true _ bbm).label (pl:=pl) hp).1⟩
theorem pS{q:Nat}(hq:s.dV q=true)(c:aA)(w':World)(g':Nat->lS)(β':Id->Option Pl):((s.born q [.obj 0 false c]).env w' g' β').F4 (.new q 0) 0:=by have e:=yI (s:=s) (ka hq).2 [.obj 0 false c] 0;refine⟨by show(s.born q [.obj 0 false c]).bQ (.new q 0)≠none;rw[e];simp,λv fr c' _=>aL _⟩
theorem Inv.azp(h:Inv C g β s a w){q:Nat}(hq:s.dV q=true){v:aA}{cs:List Value}{e:TypeId}(hk:∀pl n,v.Hf pl n e)(hN:∀n,v.xv n=n)(hv:V (s.env w g β) v.strip cs):
  ∃g' β',Inv C g' β' (s.born q [.obj 0 false v]) a (w.alloc (.cells cs.toArray e))/\
   VS ((s.born q [.obj 0 false v]).env (w.alloc (.cells cs.toArray e)) g' β') (.ptr (.new q 0) 0 [] 0) (.pointer (some ⟨w.heap.size,0,none⟩)):=by
 have ht:=Trans.alloc w g (.cells cs.toArray e) (.own (.id (.new q 0)) 0);obtain⟨h1,h2⟩:=h.Sr hq (c:=v) (p:=some ⟨w.heap.size,0⟩) ht (λb hb=>⟨qM w _ hb,fi _ _ _ (by omega)⟩) (λhe=>
  R8.obj ⟨⟨w.heap.size,0⟩,cs.toArray,e,jO _ _ _,tt w _,fv _ _ _,hk _ _,by rw[hN,show cs.toArray.toList.take cs.toArray.size=cs by simp];exact hv.mono he⟩)
 refine⟨_,_,h1,?_⟩;refine⟨[.pointer (some ⟨w.heap.size,0,none⟩)],?_,rfl⟩;simp only[V];exact⟨_,rfl,pS hq _ _ _ _,λ_=>⟨_,jO _ _ _,rfl⟩⟩
theorem Inv.aWs(h:Inv C g β s a w){q:Nat}(hq:s.dV q=true){v:aA}{cs:List Value}(hv:V (s.env w g β) v cs)(e:TypeId):
  ∃g' β',Inv C g' β' (s.born q [.obj 0 false v]) a (w.alloc (.cells cs.toArray e))/\
   VS ((s.born q [.obj 0 false v]).env (w.alloc (.cells cs.toArray e)) g' β') (.ptr (.new q 0) 0 [] 0) (.pointer (some ⟨w.heap.size,0,none⟩)):=
 h.azp hq (λpl n=>Sv hv.AG pl n e) (λn=>YI hv.AG n) (by rw[T6 hv.AG];exact hv)
theorem aHt(P:Program)(T:TypeId){z:aA}{E:Env}{cs:List Value}(hv:V E z cs):(∀pl n,(boxed P T z).Hf pl n T)/\(∀n,(boxed P T z).xv n=n)/\V E (boxed P T z).strip cs:=by
 unfold boxed;split
 ·exact⟨λ_ _=>rfl,λ_=>rfl,hv⟩
 ·exact⟨λpl n=>Sv hv.AG pl n T,λn=>YI hv.AG n,by rw[T6 hv.AG];exact hv⟩
theorem Inv.aRN(h:Inv C g β s a w){t:Ty}{x:t.den}{cs:List Value}(hv:cW (s.env w g β) t cs x)(e:TypeId):
  ∃g',Inv C g' β s a (w.alloc (.cells cs.toArray e))/\cJ (s.env w g β) (s.env (w.alloc (.cells cs.toArray e)) g' β)/\
   VS (s.env (w.alloc (.cells cs.toArray e)) g' β) (.dL t x) (.pointer (some ⟨w.heap.size,0,none⟩)):=by
 have ht:=Trans.alloc w g (.cells cs.toArray e) .free;have he:cJ (s.env w g β) (s.env (w.alloc (.cells cs.toArray e)) (ni g w.heap.size .free) β):=cJ.same ht;refine⟨_,h.Jv _,he,[.pointer (some ⟨w.heap.size,0,none⟩)],?_,rfl⟩;simp only[V];refine⟨w.heap.size,0,cs,rfl,λi v hi=>⟨_,_,rfl,?_,?_⟩,hv.mono he.mem⟩
 ·show(w.alloc (.cells cs.toArray e)).cell? ⟨w.heap.size,0+i,none⟩=some v;rw[World.cell?_alloc_new,aJ];simpa using hi
 ·show uR (ni g w.heap.size .free) w.heap.size (0+i);unfold uR;rw[fv];trivial
theorem acw(T:TypeId)(y:Value)(w:World):(newVar T y).run P w= .ok ⟨w.heap.size,0,none⟩ (w.alloc (.cells y.cells T)):=by simp[newVar,newRow]
theorem ate(h:Inv C g β s a w){T:TypeId}(ho:o.op= .alloc T){z:aA}{q:Nat}(hq:s.dV q=true)(hz:ams P T z=true):
  fy P o a w (ia C ((s.born q [.obj 0 false (boxed P T z)]).put o.dst (.ptr (.new q 0) 0 [] 0))):=by
 obtain⟨i,zv,hi,asX,hV,hO⟩:=vJ hz (s.env w g β);obtain⟨hk,hN,hV⟩:=aHt P T hV;obtain⟨g',β',h1,h2⟩:=h.azp hq hk hN hV;refine .inl ⟨.pointer (some ⟨w.heap.size,0,none⟩),w.alloc (.cells zv.cells T),?_,g',β',?_⟩
 ·refine dR (f:=Instr.alloc T true (.tuple #[])) (by simp only[execOp,ho]) ?_
  simp[Instr.alloc,zeroValue,typeInfo,hi,asX,acw]
 ·have:=h1.put o.dst h2;simpa using this
theorem VS.aZg{E:Env}{t:Ty}{x:t.den}{y:Value}(h:VS E (.dL t x) y)(dt:Bool):VS E (aUS dt t x) y:=by
 cases dt with
 |false=>exact h
 |true=>
  obtain⟨cs,hv,ho⟩:=h;simp only[V]at hv;refine⟨cs,?_,ho⟩;simp only[aUS,V,cW];simpa using hv
theorem agQ{E:Env}{t:Ty}{y:Value}(h:VS E (.d (.tR t) none) y):y= .pointer none:=by obtain⟨cs,hv,ho⟩:=h;simp only[V,cW]at hv;have ho':cs=[y]:=ho;have e:=hv.1 trivial;rw[e]at ho';simpa using ho'.symm
theorem PB{E:Env}{t:Ty}{x:t.den}{y:Value}(h:VS E (.d (.tR t) (some x)) y):VS E (.dL t x) y:=by obtain⟨cs,hv,ho⟩:=h;simp only[V,cW]at hv;refine⟨cs,?_,ho⟩;simp only[V];simpa using hv
theorem aHs(h:Inv C g β s a w){T:TypeId}{x:Operand}{obj dt:Bool}(ho:o.op= .box T x){s':AS}(he:(ank P s obj dt o.dst T (s.ev x)).eval=some s'):fy P o a w (ia C s'):=by
 unfold ank at he;cases hd:o.dst with
 |none=>rw[hd]at he;simp only[au]at he
 |some q=>
  rw[hd]at he;have aoS:=h.ev x;have pT:∀cs:List Value,(a.eval x).cells=cs.toArray->(execOp a.eval o).run P w= .ok (.value (.pointer (some ⟨w.heap.size,0,none⟩))) (w.alloc (.cells cs.toArray T)):=by
   intro cs aCx;refine dR (f:=Instr.box T (a.eval x)) (by simp only[execOp,ho]) ?_
   simp[Instr.box,acw,aCx]
  cases obj with
  |true=>
   obtain⟨hg,iT⟩:=aB.1 he;obtain rfl:=ax.1 iT;simp only[aq]at hg;obtain⟨hq,hf⟩:=hg;obtain⟨hc,_⟩:=rX hf;obtain⟨cs,hV,hO⟩:=aoS.eL hc;obtain⟨g',β',h1,h2⟩:=h.aWs hq hV T;refine .inl ⟨_,_,pT cs (hO.cells hV.one),g',β',?_⟩;rw[hd];exact h1.put (some q) h2
  |false=>
   simp only at he;cases ht:asB P depth T with
   |none=>rw[ht]at he;simp only[au]at he
   |some t=>
    rw[ht]at he;obtain⟨_,he⟩:=aB.1 he;obtain⟨y,h1,h2⟩:=av.1 he;obtain rfl:=ax.1 h2;obtain⟨g1,i1,e1,t1,cs,hR,hO⟩:=A7 h aoS h1;obtain⟨g2,i2,e2,hv⟩:=i1.aRN hR T;refine .inl ⟨_,_,pT cs (hO.cells hR.one),g2,β,?_⟩;rw[hd];exact i2.put (some q) (hv.aZg dt)
theorem wB{E:Env}{t:Ty}{x:t.den}{y:Value}(h:VS E (.dL t x) y):∃b off vs,y= .pointer (some ⟨b,off,none⟩)/\FY E (some ⟨b,off,none⟩) vs/\cW E t vs x:=by obtain⟨cs,hv,ho⟩:=h;simp only[V]at hv;obtain⟨b,off,vs,e,hr,hx⟩:=hv;have ho':cs=[y]:=ho;rw[e]at ho';exact⟨b,off,vs,by simpa using ho'.symm,hr,hx⟩
theorem vo{E:Env}{id:Id}{ver n:Nat}{p:List Ke}{y:Value}(h:VS E (.ptr id ver p n) y):
  ∃a,y= .pointer (some a)/\E.F4 id ver/\(E.cur id ver->∃pl,E.β id=some pl/\a=⟨pl.b,n,none⟩):=by
 obtain⟨cs,hv,ho⟩:=h;simp only[V]at hv;obtain⟨a,e,hb,hc⟩:=hv;have ho':cs=[y]:=ho;rw[e]at ho';exact⟨a,by simpa using ho'.symm,hb,hc⟩
theorem rJ{E:Env}{id:Id}{ver c i len:Nat}{p:List Ke}{y:Value}(h:VS E (.bu id ver p c i len) y):
  ∃a cap,y= .slice a len cap/\len<=cap/\(0 < len->a.isSome=true)/\E.F4 id ver/\
   (E.cur id ver->match E.β id with
    |some pl=>(0 < len\/i=0->a=some ⟨pl.b,c,none⟩)/\(p=[]->i=0->cap=pl.cap)
    |none=>a=none/\len=0/\cap=0):=by
 obtain⟨cs,hv,ho⟩:=h;simp only[V]at hv;obtain⟨a,cap,e,rest⟩:=hv;have ho':cs=[y]:=ho;rw[e]at ho';exact⟨a,cap,by simpa using ho'.symm,rest⟩
theorem uq{E:Env}{t:Ty}{l:List t.den}{y:Value}(h:VS E (.d (.slice t) l) y):
  ∃a cap vs,y= .slice a l.length cap/\l.length<=cap/\(0 < l.length->a.isSome=true)/\FY E a vs/\bz (cW E t) vs l:=by
 obtain⟨cs,hv,ho⟩:=h;simp only[V,cW]at hv;obtain⟨a,cap,vs,e,rest⟩:=hv;have ho':cs=[y]:=ho;rw[e]at ho';exact⟨a,cap,vs,by simpa using ho'.symm,rest⟩
theorem kU{E:Env}{y:Value}(h:VS E .cV y):y= .slice none 0 0:=by obtain⟨cs,hv,ho⟩:=h;simp only[V]at hv;have ho':cs=[y]:=ho;rw[hv]at ho';simpa using ho'.symm
theorem aDz{E:Env}{id:Id}{fr:Bool}{c:aA}(h:wQ E id fr c){p:List Ke}{n:Nat}{v:aA}(hl:(loc c.strip p).eval=some (n,v))(hf:v.eL=true):
  ∃pl cur e,E.β id=some pl/\E.w.heap[pl.b]? =some (.cells cur e (0,0))/\V E v ((cur.toList.drop n).take v.size)/\n+v.size<=cur.size:=by
 by_cases hn:c.iy=false
 ·obtain⟨pl,cur,e,hp,hh,hg,hk,hV⟩:=h.box hn;have hN:=Xz hk;generalize c.xv cur.size=N at hN hV;have hNl:(cur.toList.take N).length=N:=by rw[bq,cH];omega
  obtain⟨u,hu⟩:∃u,c.strip=u:=⟨_,rfl⟩;rw[hu]at hV hl;rcases sK p u (cur.toList.take N) n v (VO.of hV) hl with⟨rfl,rfl⟩ | ⟨h1,h2⟩
  ·have hs:=hV.size;rw[hNl]at hs;refine⟨pl,cur,e,hp,hh,?_,by omega⟩;rw[aF,<-hs];exact hV
  ·rw[hNl]at h2;rw[tm,gZ,fM (by omega)]at h1;exact⟨pl,cur,e,hp,hh,h1,by omega⟩
 ·cases c <;> first | (exact absurd rfl hn) | skip
  rotate_left
  ·have hl:(loc (.mp _ _ _) p).eval=_:=hl;obtain⟨_,rfl⟩:=akk hl;simp[aA.eL]at hf
  ·have hl:(loc (.sH _ _ _ _ _ _) p).eval=_:=hl;obtain⟨_,rfl⟩:=XQ hl;simp[aA.eL]at hf
  ·have hl:(loc (.qX _ _ _) p).eval=_:=hl;obtain⟨_,rfl⟩:=XR hl;simp[aA.eL]at hf
  rename_i e t l;obtain⟨hz,h⟩:=h;cases hp:E.β id with
  |none=>
   rw[hp]at h;have:l=[]:=h;subst this;obtain⟨_,rfl⟩:=aak hl;simp[aA.eL]at hf
  |some pl=>
   rw[hp]at h;obtain⟨cur,k,q1,q2,q3,q4,q5,q6,q7,q8⟩:=h;have hlen:=bz.length (λc x hx=>cW.size hx) q8;have tc:l.length*t.size<=cur.size:=by rw[q2];exact cO _ q3
   rcases sK (E:=E) p (.vec e t l) _ n v q8 hl with⟨rfl,rfl⟩ | ⟨h1,h2⟩
   ·simp[aA.eL]at hf
   ·rw[hlen]at h2;rw[tm,gZ,fM (by omega)]at h1;exact⟨pl,cur,e,rfl,q1,h1,by omega⟩
theorem aDv{E:Env}{v v':aA}(h:(aWu v).eval=some v'):(∀cs,V E v cs->V E v' cs)/\v'.agg=v.agg:=by
 unfold aWu at h;split at h
 ·rename_i t l;obtain⟨h1,h2⟩:=bM.1 h;obtain rfl:=ax.1 h2;refine⟨λcs hv=> ?_,rfl⟩;simp only[V,cW]at hv ⊢;exact hv.1 (Option.isNone_iff_eq_none.1 h1)
 ·obtain rfl:=ax.1 h;exact⟨λ_ h=>h,rfl⟩
theorem aaj(h:Inv C g β s a w){T:TypeId}{x:aA}{y:Value}(hx:VS (s.env w g β) x y){v:aA}(he:(P5 P s T x).eval=some v):
  ∃ad z,y= .pointer (some ad)/\(loadVar T ad).run P w= .ok z w/\VS (s.env w g β) v z:=by
 unfold P5 at he;split at he
 ·rename_i id ver p n;cases lK:s.obj id with
  |none=>rw[lK]at he;simp only[au]at he
  |some r=>
   obtain⟨v0,fr,c⟩:=r;rw[lK]at he;obtain⟨h1,h2⟩:=aB.1 he;obtain⟨⟨n',v'⟩,h3,h4⟩:=av.1 h2;obtain⟨h5,h6⟩:=aB.1 h4;obtain⟨h7,h8⟩:=bM.1 h6;obtain⟨n1,n2⟩:=aDv (E:=s.env w g β) h8;simp only[ba]at h7;have aXO:v0=ver:=by simpa using h1
   subst aXO h7;have cM:=dX lK;obtain⟨ad,rfl,hb,hc⟩:=vo hx;obtain⟨pl,hp,rfl⟩:=hc ⟨fr,c,cM⟩;obtain⟨auJ,_⟩:=rX h5;obtain⟨pl',cur,e,hp',hh,hV,hle⟩:=aDz (h.bI id v0 fr c cM) h3 auJ;rw[hp]at hp';obtain rfl:pl=pl':=by simpa using hp'
   obtain⟨z,Vb,S3⟩:=AY (P:=P) (w:=w) h5 (b:=pl.b) (off:=n') hV.size (λj x hj=>by
    rw[cell_of_row w pl.b (n'+j) cur e (0,0) hh];rw[cZ]at hj;split at hj
    ·rw[fJ]at hj;simpa using hj
    ·cases hj)
   exact⟨_,z,rfl,Vb,VS.of (n1 _ hV) (by rw[n2];exact S3)⟩
 ·rename_i t x';obtain⟨h1,h2⟩:=aB.1 he;obtain rfl:=ax.1 h2;obtain⟨b,off,vs,rfl,hr,hR⟩:=wB hx;obtain⟨z,Vb,S3⟩:=AY (P:=P) (w:=w) h1 (b:=b) (off:=off) hR.size (λj x hj=>by
   obtain⟨b',off',e,hh⟩:=hr j x hj;simp only[ay,Addr.mk.injEq,ix]at e;obtain⟨rfl,rfl⟩:=e;exact hh.1)
  exact⟨_,z,rfl,Vb,VS.of (by simpa only[V]using hR) S3⟩
 ·rename_i t x';obtain⟨u,e,he⟩:=wY.1 he;subst e;have hx:=PB hx;obtain⟨h1,h2⟩:=aB.1 he;obtain rfl:=ax.1 h2;obtain⟨b,off,vs,rfl,hr,hR⟩:=wB hx;obtain⟨z,Vb,S3⟩:=AY (P:=P) (w:=w) h1 (b:=b) (off:=off) hR.size (λj x hj=>by
   obtain⟨b',off',e,hh⟩:=hr j x hj;simp only[ay,Addr.mk.injEq,ix]at e;obtain⟨rfl,rfl⟩:=e;exact hh.1)
  exact⟨_,z,rfl,Vb,VS.of (by simpa only[V]using hR) S3⟩
 ·simp only[au]at he
theorem aC6(h:Inv C g β s a w){T:TypeId}{x:Operand}(ho:o.op= .load T x){v:aA}(he:(P5 P s T (s.ev x)).eval=some v):fy P o a w (ia C (s.put o.dst v)):=by obtain⟨ad,z,hy,hr,hv⟩:=aaj h (h.ev x) he;refine h.value hv (dR (f:=Instr.loadAt T (a.eval x)) (by simp only[execOp,ho]) ?_);simp[Instr.loadAt,Instr.sureAddr,hy,hr]
theorem Trans.setRow(w:World){b:Nat}{i:Id}(hg:g b= .own (.id i) 0)(cur:Array Value):Trans w (w.setRow b cur) g g:=by
 refine⟨by simp,by simp,by simp,by simp,λb' hb=> ?_⟩;by_cases he:b'=b
 ·subst he;rw[hg];exact⟨.inr ⟨i,0,rfl,aw _⟩,λ_ _ hh=>by omega⟩
 ·rw[setRow_other w b b' cur he];cases WX:g b' with
  |free=>exact⟨rfl,rfl⟩
  |own o' k=>cases o' with
   |dZ=>exact⟨rfl,rfl⟩
   |id i'=>exact⟨.inr ⟨i',k,rfl,aw _⟩,λoff v _ hv=>by rw[cell_setRow_other w b cur _ he];exact hv⟩
theorem Inv.apart(h:Inv C g β s a w){id:Id}{k:Nat}{b:Nat}(hg:g b= .own (.id id) k){i:Id}{ver:Nat}{fr:Bool}{c:aA}{pl:Pl}(hi:i≠id)(hs:s.bQ i=some (.obj ver fr c))(hp:β i=some pl):pl.b≠b:=by
 intro hb;have hl:(∃k,g pl.b= .own (.id i) k)\/(fr=true/\g pl.b= .free):=((h.bI i ver fr c hs).label (pl:=pl) hp).2;rw[hb,hg]at hl;rcases hl with⟨k',hk⟩ | ⟨_,hk⟩
 ·simp only[lS.own.injEq,Own.id.injEq]at hk;exact hi hk.1.symm
 ·cases hk
theorem ar2(h:Inv C g β s a w){T:TypeId}{x v:aA}{y z:Value}(hx:VS (s.env w g β) x y)(hz:VS (s.env w g β) v z){s':AS}(he:(I3 P s T x v).eval=some s'):
  ∃ad w',y= .pointer (some ad)/\(storeVar T ad z).run P w= .ok () w'/\∃g' β',Inv C g' β' s' a w':=by
 unfold I3 at he;split at he
 ·rename_i id ver p n;cases lK:s.obj id with
  |none=>rw[lK]at he;simp only[au]at he
  |some r=>
   obtain⟨v0,fr,c⟩:=r;rw[lK]at he;obtain⟨h1,h2⟩:=aB.1 he;obtain⟨⟨n',o'⟩,h3,h4⟩:=av.1 h2;obtain⟨h5,h6⟩:=aB.1 h4;obtain⟨h7,h8⟩:=bM.1 h6;obtain⟨c',h9,aYs⟩:=av.1 h8;obtain rfl:=ax.1 aYs;simp only[ba]at h7;simp only[aq,dp,cr]at h1;obtain⟨⟨aXO,aVG⟩,ZR⟩:=h1;subst aXO h7 aVG;have cM:=dX lK;obtain⟨ad,rfl,hb,hc⟩:=vo hx;obtain⟨pl,hp,rfl⟩:=hc ⟨false,c,cM⟩;have hp:β id=some pl:=hp;obtain⟨auJ,_⟩:=rX ZR;obtain⟨cs,hV,hO⟩:=hz.eL auJ;have hOb:=h.bI id v0 false c cM;obtain⟨hcel',_⟩:=rX h5;have bbE:c.iy=false\/c.iy=true:=by cases c.iy <;> simp
   rcases bbE with hn | hn
   ·obtain⟨pl',cur,e,hp',hh,hg,hk,hVc⟩:=hOb.box hn;have hp':β id=some pl':=hp';rw[hp]at hp';obtain rfl:pl=pl':=by simpa using hp'
    have hg:g pl.b= .own (.id id) 0:=hg;have hh:w.heap[pl.b]? =some (.cells cur e (0,0)):=hh
    have hN:=Xz hk;have hNl:(cur.toList.take (c.xv cur.size)).length=c.xv cur.size:=by rw[bq,cH];omega
    obtain⟨u1,u2,u3⟩:=qs p c.strip (cur.toList.take (c.xv cur.size)) n' o' v c' cs (VO.of hVc) h3 hV h9;have u4:=u2.to (u3.uf hVc.uf);have tc:c'.size=c.strip.size:=by have e1:=u4.size;have e2:=hVc.size;rw[jE u1]at e1;omega
    rw[hNl]at u1;have aJS:(dq cur.toList n' cs).length=cur.toList.length:=jE (by have e1:cur.toList.length=cur.size:=cH;omega);have bbu:(dq cur.toList n' cs).take (c.xv cur.size)=dq (cur.toList.take (c.xv cur.size)) n' cs:=by
     conv=>lhs;rw[<-dE (c.xv cur.size) cur.toList]
     rw[Ck (by rw[hNl];exact u1),iP (by rw[jE (by rw[hNl];exact u1),hNl];exact aw _)];exact aW (by rw[jE (by rw[hNl];exact u1),hNl];exact aw _)
    have pT:=Gr (P:=P) (w:=w) ZR hV hO (b:=pl.b) (off:=n') hh (by have e1:cur.toList.length=cur.size:=cH;have e2:cs.toArray.size=cs.length:=gX;omega);have ht:=Trans.setRow w hg (dq cur.toList n' cs).toArray;have hle:cJ (s.env w g β) ((s.bg id (.obj v0 false (c.wrap c'))).env (w.setRow pl.b (dq cur.toList n' cs).toArray) g β):=cJ.bg cM (aw _) ht (λ_ _=>rfl) (λ_=>rfl);refine⟨_,_,rfl,pT,g,β,h.step (da _ _ _) ht hle (iG.bg h.bI (by rw[cM];simp) hle (λ_ _=>rfl) (λi ver fr c pl2 hi ZS agT=>⟨setRow_other w pl.b pl2.b _ (h.apart hg hi ZS agT),rfl⟩) ?_ (pY cM λk v1 l e=>by rw[e]at hn;simp[aA.iy]at hn))⟩;exact R8.obj ⟨pl,_,e,hp,setRow_heap w pl.b cur _ e (0,0) hh,hg,by rw[gX,aJS,cH];exact Mu hk u4.AG tc,by
     rw[NY c u4.AG,gX,aJS,cH,Su u4.AG tc,show(dq cur.toList n' cs).toArray.toList=dq cur.toList n' cs from rfl,bbu];exact V.mono hle u4⟩
   ·cases c <;> first | (simp[aA.iy]at hn;done) | skip
    rotate_left
    ·have h3:(loc (.mp _ _ _) p).eval=_:=h3;obtain⟨_,rfl⟩:=akk h3;simp[aA.eL]at hcel'
    ·have h3:(loc (.sH _ _ _ _ _ _) p).eval=_:=h3;obtain⟨_,rfl⟩:=XQ h3;simp[aA.eL]at hcel'
    ·have h3:(loc (.qX _ _ _) p).eval=_:=h3;obtain⟨_,rfl⟩:=XR h3;simp[aA.eL]at hcel'
    rename_i e t l;obtain⟨asY,hOb⟩:=hOb;have hOb:(match β id with
     |none=>l=[]
     |some pl=>∃cur k,w.heap[pl.b]? =some (.cells cur e (0,0))/\cur.size=pl.cap*t.size/\l.length<=pl.cap/\pl.cap<=maxLen/\g pl.b= .own (.id id) k/\
       k<=l.length*t.size/\(false=false->k=0)/\bz (cW (s.env w g β) t) (cur.toList.take (l.length*t.size)) l):=hOb
    rw[hp]at hOb;obtain⟨cur,k,q1,q2,q3,q4,q5,q6,q7,q8⟩:=hOb;have hk:=q7 rfl;subst hk;have hlen:=bz.length (λc x hx=>cW.size hx) q8;have tc:l.length*t.size<=cur.size:=by rw[q2];exact cO _ q3
    obtain⟨u1,u2,u3⟩:=qs (E:=s.env w g β) p (.vec e t l) _ n' o' v c' cs q8 h3 hV h9;rw[hlen]at u1;have pT:=Gr (P:=P) (w:=w) ZR hV hO (b:=pl.b) (off:=n') q1 (by omega);cases c' <;> first | (exact u3.elim) | skip
    rename_i e' t' l';obtain⟨rfl,rfl,hl'⟩:=u3;have ht:=Trans.setRow w q5 (dq cur.toList n' cs).toArray;have hle:cJ (s.env w g β) ((s.bg id (.obj v0 false (.vec e' t' l'))).env (w.setRow pl.b (dq cur.toList n' cs).toArray) g β):=cJ.bg cM (aw _) ht (λ_ _=>rfl) (λ_=>rfl);refine⟨_,_,rfl,pT,g,β,h.step (da _ _ _) ht hle (iG.bg h.bI (by rw[cM];simp) hle (λ_ _=>rfl) (λi ver fr c pl2 hi ZS agT=>⟨setRow_other w pl.b pl2.b _ (h.apart q5 hi ZS agT),rfl⟩) ?_ (pY cM λk v1 l e=>by cases e))⟩;refine⟨asY,?_⟩;show(match β id with
     |none=>l'=[]
     |some pl=>_)
    rw[hp];have aJS:(dq cur.toList n' cs).length=cur.toList.length:=jE (by simp;omega);refine⟨_,0,setRow_heap w pl.b cur _ e' (0,0) q1,by rw[gX,aJS];simpa using q2,by omega,q4,q5,by omega,λ_=>rfl,?_⟩;have e2:(dq cur.toList n' cs).take (l'.length*t'.size)=dq (cur.toList.take (l.length*t'.size)) n' cs:=by
     rw[hl']
     conv=>lhs;rw[<-dE (l.length*t'.size) cur.toList]
     rw[Ck (by rw[hlen];exact u1),iP (by rw[jE (by rw[hlen];exact u1),hlen];exact aw _)];exact aW (by rw[jE (by rw[hlen];exact u1),hlen];exact aw _)
    rw[show(dq cur.toList n' cs).toArray.toList=dq cur.toList n' cs from rfl,e2];exact bz.mono (λ_ _ hx=>hx.mono hle.mem) u2
 ·simp only[au]at he
theorem axd(h:Inv C g β s a w){T:TypeId}{x v:Operand}(ho:o.op= .store T x v){s':AS}(he:(I3 P s T (s.ev x) (s.ev v)).eval=some s'):fy P o a w (ia C (s'.put o.dst .undef)):=by obtain⟨ad,w',hy,hr,g',β',hi⟩:=ar2 h (h.ev x) (h.ev v) he;refine .inr (.inl ⟨w',agE (f:=Instr.storeAt T (a.eval x) (a.eval v)) (by simp only[execOp,ho]) ?_,g',β',hi.put o.dst VS.undef⟩);simp[Instr.storeAt,Instr.sureAddr,hy,hr]
end
end Go.Ab
namespace Go.Ab
section
variable {P:Program} {C:Ctx} {g:Nat->lS} {β:Id->Option Pl} {s:AS} {a:Act} {w:World} {o:Oper}
theorem aha(h:Inv C g β s a w){x:Operand}(ho:o.op= .move x\/o.op= .assign x):fy P o a w (ia C (s.put o.dst (s.ev x))):=by
 refine h.value (h.ev x) ?_
 rcases ho with ho | ho <;> simp[execOp,ho]
theorem aDO(h:Inv C g β s a w){c x y:Operand}(ho:o.op= .pick c x y){v:aA}(he:(azA (s.ev c) (s.ev x) (s.ev y)).eval=some v):fy P o a w (ia C (s.put o.dst v)):=by
 have hc:=h.ev c;have hx:=h.ev x;have hy:=h.ev y;unfold azA at he;split at he
 ·rename_i b hb;rw[hb]at hc;have bdD:=Xy hc;have hr:(execOp a.eval o).run P w= .ok (.value (if b then a.eval x else a.eval y)) w:=by simp[execOp,ho,bdD,asBool]
  split at he
  ·rename_i bx by' bdy bdz;obtain rfl:=ax.1 he;rw[bdy]at hx;rw[bdz]at hy;refine h.value ?_ hr
   cases b
   ·simpa using hy
   ·simpa using hx
  ·cases b with
   |true=>
    simp only[Out.eval,ay]at he;subst he;exact h.value (by simpa using hx) hr
   |false=>
    simp only[Out.eval,ay]at he;subst he;exact h.value (by simpa using hy) hr
 ·simp only[au]at he
theorem aeJ(h:Inv C g β s a w){x:Operand}(ho:o.op= .nilCheck x){s':AS}(he:(match s.ev x with
  | .ptr id v p n=>Out.ok (s.put o.dst (.ptr id v p n))
  | .dL t y=> .ok (s.put o.dst (.dL t y))
  | .d (.tR t) y=> .get (y:Option t.den) λy=> .ok (s.put o.dst (.dL t y))
  | .fn f c=> .ok (s.put o.dst (.fn f c))
  |_=> .fail).eval=some s'):fy P o a w (ia C s'):=by
 have hx:=h.ev x;split at he
 ·rename_i id v p n hv;obtain rfl:=ax.1 he;rw[hv]at hx;obtain⟨ad,hy,_⟩:=vo hx;exact h.value hx (by simp[execOp,ho,hy])
 ·rename_i t y hv;obtain rfl:=ax.1 he;rw[hv]at hx;obtain⟨b,off,vs,hy,_⟩:=wB hx;exact h.value hx (by simp[execOp,ho,hy])
 ·rename_i t y hv;obtain⟨z,e,he⟩:=wY.1 he;subst e;obtain rfl:=ax.1 he;rw[hv]at hx;have hx:=PB hx;obtain⟨b,off,vs,hy,_⟩:=wB hx;exact h.value hx (by simp[execOp,ho,hy])
 ·rename_i f c hv;obtain rfl:=ax.1 he;rw[hv]at hx;obtain⟨cs,hV,hO⟩:=hx.eL rfl;simp only[V]at hV;obtain⟨vs,e,hc⟩:=hV;have hO':cs=[a.eval x]:=hO;rw[e]at hO';have hy:a.eval x= .func (.func f) #[] vs.toArray:=by simpa using hO'.symm
  refine h.value (v:= .fn f c) ⟨cs,by simp only[V];exact⟨vs,e,hc⟩,hO⟩ (by simp[execOp,ho,hy])
 ·simp only[au]at he
theorem apc{op:BinOp}{k k':IntKind}{x y:Int}{v:aA}(he:(aKg op k x k' y).eval=some v)(T:TypeId)(E:Env):
  ∃z,(binOp op T (.int k x) (.int k' y)).run P w= .ok z w/\VS E v z:=by
 unfold aKg at he;have same:∀(hk:decide (k=k')=true),k=k':=λhk=>by simpa using hk
 cases op with
 |shl=>
  obtain⟨h1,h2⟩:=bM.1 he;obtain rfl:=ax.1 h2;have h1:¬y < 0:=by simpa using h1
  exact⟨_,by simp[binOp,Op.shift,h1],lz _ _⟩
 |shr=>
  obtain⟨h1,h2⟩:=bM.1 he;obtain rfl:=ax.1 h2;have h1:¬y < 0:=by simpa using h1
  exact⟨_,by simp[binOp,Op.shift,h1],lz _ _⟩
 |quo=>
  obtain⟨h1,h2⟩:=aB.1 he;obtain rfl:=same h1;obtain⟨h3,h4⟩:=bM.1 h2;obtain rfl:=ax.1 h4;have h3:y≠0:=by simpa using h3
  exact⟨_,by simp[binOp,Op.intDiv,h3],lz _ _⟩
 |rem=>
  obtain⟨h1,h2⟩:=aB.1 he;obtain rfl:=same h1;obtain⟨h3,h4⟩:=bM.1 h2;obtain rfl:=ax.1 h4;have h3:y≠0:=by simpa using h3
  exact⟨_,by simp[binOp,Op.intDiv,h3],lz _ _⟩
 |add | sub | mul=>
  obtain⟨h1,h2⟩:=aB.1 he;obtain rfl:=same h1;obtain rfl:=ax.1 h2;exact⟨_,by simp[binOp,Op.intArith],lz _ _⟩
 |and | or | xor | andNot=>
  obtain⟨h1,h2⟩:=aB.1 he;obtain rfl:=same h1;obtain rfl:=ax.1 h2;refine⟨_,?_,lz _ _⟩;unfold binOp Op.intBits;simp[cD]
 |eql | neq | lss | leq | gtr | geq=>
  obtain⟨h1,h2⟩:=aB.1 he;obtain rfl:=same h1;obtain rfl:=ax.1 h2;refine⟨_,?_,vM _⟩;simp[binOp,Op.intCmp]
theorem ar3{op:BinOp}{x y:ByteArray}{v:aA}(he:(aNv op x y).eval=some v)(T:TypeId)(E:Env):
  ∃z,(binOp op T (.string x) (.string y)).run P w= .ok z w/\VS E v z:=by
 unfold aNv at he;cases op <;> simp only[au]at he
 case add=>
  obtain⟨h1,h2⟩:=bM.1 he;obtain rfl:=ax.1 h2;have h1:¬((x.size+y.size:Nat):Int) > IntKind.i64.max:=by simpa using h1
  refine⟨.string (x++y),?_,aiD _⟩;show(Op.stringOp .add x y).run P w=_;unfold Op.stringOp;simp only[h1,bp];rfl
 all_goals
  obtain rfl:=ax.1 he;exact⟨_,by simp[binOp,Op.stringOp],vM _⟩
theorem nJ{op:BinOp}{T:TypeId}{x y:Operand}{u v:Value}(h1:u≠ .nilIface)(h2:sa u=false):(eqGuard op T x y u v).run P w= .ok () w:=by
 unfold eqGuard;cases op <;> simp
 all_goals (cases u <;> simp_all [sa])
theorem yR{T:TypeId}{b:Bool}(h:Nj P T b=true):∃i,P.info? T=some i/\∀w,(isAgg T).run P w= .ok b w:=by
 unfold Nj at h;cases hu:P.underlying T with
 |none=>rw[hu]at h;cases h
 |some d=>
  obtain⟨i,hi⟩:=ay3 hu;refine⟨i,hi,λw=> ?_⟩;rw[hu]at h;unfold isAgg;rw[Sem.run_bind,run_underlying hu w];cases d <;> simp at h <;> simp[h]
theorem xk{T:TypeId}{b:Bool}(h:Nj P T b=true){cs:List Value}{off n:Nat}(hn:P.cellsOf T=n)(hb:b=false->n=1)(hl:off+n<=cs.length):
  ∃y,(part T cs.toArray off).run P w= .ok y w/\fH b ((cs.drop off).take n) y:=by
 obtain⟨i,hi,aoP⟩:=yR h;rw[mQ hi]at hn;unfold part;rw[Sem.run_bind,aoP w];simp only[Result.andThen_ok];cases b with
 |true=>
  refine⟨.agg ((cs.drop off).take n).toArray,?_,rfl⟩;simp only[bG,Sem.run_bind,run_sizeOf hi,Result.andThen_ok,hn,Sem.run_pure];simp[List.extract_eq_take_drop]
 |false=>
  have h1:=hb rfl;subst h1;have gv:off < cs.length:=by omega
  refine⟨cs[off],?_,?_⟩
  ·simp[gv]
  ·show(cs.drop off).take 1=[cs[off]];rw[ao gv,List.take_succ_cons,dF]
theorem xm{t:Ty}(h:t.agg=false):t.size=1:=by cases t <;> first | rfl | (simp[Ty.agg]at h)
theorem HQ{α:Type}(f:α->α->Bool)(x y:α)(xs ys:List α):lP f (x::xs) (y::ys)=(f x y && lP f xs ys):=rfl
theorem vX(E:Env):∀(n:Nat) (T:TypeId) (t:Ty),sE P n T t=true->∀(d:Nat),n<=d->∀(cx cy:List Value) (x y:t.den) (u v:Value),cW E t cx x->cW E t cy y->fH t.agg cx u->fH t.agg cy v->
  (Op.equalIn d T u v).run P w= .ok (t.beq x y) w
 | 0,T,t,h,_,_,_,_,_,_,_,_,_,_,_,_=>by simp[sE]at h
 |n+1,T,t,h,0,hd,_,_,_,_,_,_,_,_,_,_=>by omega
 |n+1,T,t,h,d+1,hd,cx,cy,x,y,u,v,hx,hy,hu,hv=>by
  simp only[sE]at h;split at h
  ·rename_i k k' hT;simp only[cW]at hx hy;have e1:cx=[u]:=hu;have e2:cy=[v]:=hv;rw[hx]at e1;rw[hy]at e2;simp only[cX,ix]at e1 e2;subst e1 e2;rw[run_equalIn_int w d T _ _ _ _ hT];rfl
  ·rename_i hT;simp only[cW]at hx hy;have e1:cx=[u]:=hu;have e2:cy=[v]:=hv;rw[hx]at e1;rw[hy]at e2;simp only[cX,ix]at e1 e2;subst e1 e2;rw[run_equalIn_bool' w d T _ _ hT];rfl
  ·rename_i hT;simp only[cW]at hx hy;have e1:cx=[u]:=hu;have e2:cy=[v]:=hv;rw[hx]at e1;rw[hy]at e2;simp only[cX,ix]at e1 e2;subst e1 e2;rw[run_equalIn_string w d T _ _ hT];rfl
  ·rename_i m e m' t' hT;simp only[aq,dp]at h;obtain⟨⟨⟨⟨rfl,aV3⟩,tc⟩,Oh⟩,vY⟩:=h;simp only[cW]at hx hy;obtain⟨bba,baW⟩:=hx;obtain⟨bdV,bdE⟩:=hy;have e1:u= .agg cx.toArray:=hu;have e2:v= .agg cy.toArray:=hv;subst e1 e2;obtain⟨i,hi,aoP⟩:=yR Oh;have hsz':=tc;rw[mQ hi]at hsz';simp only[Op.equalIn,Sem.run_bind,run_underlying hT,Result.andThen_ok,run_sizeOf hi,hsz'];simp only[Std.Legacy.Range.forIn_eq_forIn_range'];have hm:([:m]:Std.Legacy.Range).size=m:=by simp[Std.Legacy.Range.size]
   rw[hm];have asY:∀c z,cW E t' c z->c.length=t'.size:=λc z hz=>hz.size
   have bx:t'.agg=false->t'.size=1:=xm
   have key:∀(k:Nat) (x y:List t'.den) (j:Nat),x.length=k->y.length=k->bz (cW E t') (cx.drop (j*t'.size)) x->bz (cW E t') (cy.drop (j*t'.size)) y->
     (forIn (List.range' j k) ((none,()):Option Bool×Unit) λi __s=>(do
      let __do_lift <-part e cx.toArray (i*t'.size)
      let __do_lift_1 <-part e cy.toArray (i*t'.size)
      let __do_lift <-Op.equalIn d e __do_lift __do_lift_1
      if(!__do_lift)=true then pure (ForInStep.done (some false,())) else pure (ForInStep.yield (none,())):Sem (ForInStep (Option Bool×Unit)))).run P w= .ok (if lP t'.beq x y then none else some false,()) w:=by
    intro k
    induction k with
    |zero=>
     intro x y j hx hy _ _;rw[List.length_eq_zero_iff.1 hx,List.length_eq_zero_iff.1 hy];rfl
    |succ k ih=>
     intro x y j hx hy hcx' hcy';cases x with
     |nil=>simp at hx
     |cons x0 xs=>
      cases y with
      |nil=>simp at hy
      |cons y0 ys=>
       have gx:=bz.get asY hcx' 0 (by simp);have gy:=bz.get asY hcy' 0 (by simp);simp only[mK,aF,List.getElem_cons_zero]at gx gy;have lenx:((cx.drop (j*t'.size)).take t'.size).length=t'.size:=gx.size;have leny:((cy.drop (j*t'.size)).take t'.size).length=t'.size:=gy.size;have Vb:t'.size≠0:=by simpa using aV3
       have ba6:j*t'.size+t'.size<=cx.length:=by simp only[bq,di]at lenx;omega
       have bdR:j*t'.size+t'.size<=cy.length:=by simp only[bq,di]at leny;omega
       obtain⟨ux,h1,o1⟩:=xk (w:=w) Oh tc bx (cs:=cx) (off:=j*t'.size) ba6;obtain⟨uy,h2,o2⟩:=xk (w:=w) Oh tc bx (cs:=cy) (off:=j*t'.size) bdR;have h3:=vX E n e t' vY d (by omega) _ _ x0 y0 ux uy gx gy o1 o2;have nx:bz (cW E t') (cx.drop ((j+1)*t'.size)) xs:=by have:=bz.drop asY 1 hcx';rw[fI]at this;simpa[eg]using this
       have ny:bz (cW E t') (cy.drop ((j+1)*t'.size)) ys:=by have:=bz.drop asY 1 hcy';rw[fI]at this;simpa[eg]using this
       have:=ih xs ys (j+1) (by simpa using hx) (by simpa using hy) nx ny;rw[List.range'_succ,List.forIn_cons];simp only[Sem.run_bind,h1,h2,h3,Result.andThen_ok,HQ];rcases iJ (t'.beq x0 y0) with hb | hb
       ·simp only[hb,ct,bE,bp,Sem.run_pure,Result.andThen_ok,bN];exact this
       ·simp only[hb,eT,bG,Sem.run_pure,Result.andThen_ok,dr,bE,bp]
   have:=key m x y 0 bba bdV (by simpa using baW) (by simpa using bdE);rw[this];show _=Result.ok (lP t'.beq x y) w;cases lP t'.beq x y <;> rfl
  ·rename_i t0 _ _ fs hT;simp only[aq,cr]at h;obtain⟨ml,aVH⟩:=h;have hF:P.fieldsOf T=fs:=by simp[Program.fieldsOf,hT]
   have hT':P.underlying T=some (.struct (P.fieldsOf T)):=by rw[hF];exact hT
   have key:∀(fl:List Field) (t:Ty) (off:Nat),M3 P (sE P n) fl t off=true->∀(x y:t.den),cW E t (cx.drop off) x->cW E t (cy.drop off) y->
     (Op.eqFields d cx.toArray cy.toArray fl).run P w= .ok (t.beq x y) w:=by
    intro fl
    induction fl with
    |nil=>
     intro t off hc x y _ _;cases t <;> first | (simp[M3]at hc;done) | rfl
    |cons f fl ih=>
     intro t off hc x y hx hy;cases t <;> first | (simp[M3]at hc;done) | skip
     rename_i ta tb;simp only[M3,aq,cr,dp,gf]at hc;obtain⟨⟨⟨⟨⟨⟨bbg,aQT⟩,hz⟩,tc⟩,Oh⟩,vY⟩,aJO⟩:=hc;simp only[cW]at hx hy;obtain⟨xa,xb,ex,aZe,bbF⟩:=hx;obtain⟨ya,yb,ey,bc2,beg⟩:=hy;have bx:ta.agg=false->ta.size=1:=xm;have lx:xa.length=ta.size:=aZe.size;have ly:ya.length=ta.size:=bc2.size;have split:∀(cs xa xb:List Value),cs.drop off=xa++xb->xa.length=ta.size->(cs.drop off).take ta.size=xa/\cs.drop (off+ta.size)=xb/\off+ta.size<=cs.length:=by intro cs xa xb e l;refine⟨by rw[e];exact ky l,by rw[<-fI,e];exact ku l,?_⟩;have:=bl ag e;simp only[di,ai]at this;omega
     obtain⟨sx1,sx2,sx3⟩:=split cx xa xb ex lx;obtain⟨sy1,sy2,sy3⟩:=split cy ya yb ey ly;obtain⟨ux,h1,o1⟩:=xk (w:=w) Oh tc bx (cs:=cx) (off:=off) sx3;obtain⟨uy,h2,o2⟩:=xk (w:=w) Oh tc bx (cs:=cy) (off:=off) sy3;rw[sx1]at o1;rw[sy1]at o2;have h3:=vX E n f.type ta vY d (by omega) _ _ x.1 y.1 ux uy aZe bc2 o1 o2;have h4:=ih tb (off+ta.size) aJO x.2 y.2 (by rw[sx2];exact bbF) (by rw[sy2];exact beg);simp only[Op.eqFields,ne_eq,bbg,not_false_eq_true,bG,Sem.run_bind,aQT,h1,h2,h3,Result.andThen_ok];show _=Result.ok (ta.beq x.1 y.1 && tb.beq x.2 y.2) w;rcases iJ (ta.beq x.1 y.1) with hb | hb
     ·simp only[hb,ct,bE,bp,bN];exact h4
     ·simp[hb]
   have Oh:t0.agg=true:=by cases hl:fs.toList <;> rw[hl]at aVH <;> cases t0 <;> first | rfl | (simp[M3]at aVH;done)
   rw[Oh]at hu hv;have e1:u= .agg cx.toArray:=hu;have e2:v= .agg cy.toArray:=hv;subst e1 e2;rw[run_equalIn_struct w d T _ _ hT' ml,hF];exact key fs.toList t0 0 aVH x y (by simpa using hx) (by simpa using hy)
  ·cases h
end
end Go.Ab
namespace Go.Ab
section
variable {P:Program} {C:Ctx} {g:Nat->lS} {β:Id->Option Pl} {s:AS} {a:Act} {w:World} {o:Oper}
theorem aLk{E:Env}{v:aA}{y c:Value}(h:VS E v y)(hc:v.eL=true)(ha:v.agg=false)(hV:∀cs,V E v cs->cs=[c]):y=c:=by have:=h.single hc ha;simpa using hV _ this
theorem J0{E:Env}{y:Value}(h:VS E .qC y):y= .pointer none:=aLk h rfl rfl λcs hv=>by simpa only[V]using hv
theorem XU{E:Env}{y:Value}(h:VS E .xc y):y= .nilFunc:=aLk h rfl rfl λcs hv=>by simpa only[V]using hv
theorem ZE{E:Env}{f:FuncId}{c:aA}{y:Value}(h:VS E (.fn f c) y):∃vs,y= .func (.func f) #[] vs.toArray/\VC E c vs:=by have h1:=h.single rfl rfl;simp only[V]at h1;obtain⟨vs,e,hc⟩:=h1;exact⟨vs,by simpa using e,hc⟩
theorem ff{T:TypeId}{u v:Value}{b:Bool}(h:∀d,(Op.equalIn (d+1) T u v).run P w= .ok b w):(Op.equal T u v).run P w= .ok b w:=h 9999
theorem Zz{T:TypeId}{x y:aA}{u v:Value}{E:Env}(hx:VS E x u)(hy:VS E y v){b:Bool}(he:(Bo P T x y).eval=some b):
  (Op.equal T u v).run P w= .ok b w/\u≠ .nilIface/\(sa u=false\/(sa v=true/\P.eqGuardType P.depth T=false))/\
   (∀op,binOp op T u v=(match op with | .eql=>do pure (.bool (<-Op.equal T u v)) | .neq=>do pure (.bool (!(<-Op.equal T u v))) | _=>binOp op T u v)):=by
 unfold Bo at he;split at he
 ·rename_i t x' t' y';obtain⟨y'',h1,h2⟩:=av.1 he;obtain⟨rfl,h1⟩:=ju (jW.1 h1);simp only at h1;subst h1;obtain⟨h3,h4⟩:=aB.1 h2;obtain rfl:=ax.1 h4;simp only[aq,gw,cr,ba]at h3;obtain⟨h3,h5⟩:=h3;obtain⟨cx,hVx,hOx⟩:=hx.eL rfl;obtain⟨cy,hVy,hOy⟩:=hy.eL rfl;simp only[V]at hVx hVy;have hr:=vX (w:=w) E depth T t' h5 10000 (by decide) cx cy x' y' u v hVx hVy hOx hOy;refine⟨hr,?_⟩;rcases h3 with⟨Oh,bdM⟩ | rfl
  ·have hOx':fH t'.agg cx u:=hOx;have hOy':fH t'.agg cy v:=hOy;rw[Oh]at hOx' hOy';have e1:u= .agg cx.toArray:=hOx';have e2:v= .agg cy.toArray:=hOy';subst e1 e2;exact⟨by simp,.inr ⟨rfl,bdM⟩,λop=>by cases op <;> rfl⟩
  ·simp only[cW]at hVx hVy;have e1:cx=[u]:=hOx;have e2:cy=[v]:=hOy;rw[hVx]at e1;rw[hVy]at e2;simp only[cX,ix]at e1 e2;subst e1 e2;exact⟨by simp,.inl rfl,λop=>by cases op <;> rfl⟩
 ·obtain⟨h1,h2⟩:=aB.1 he;obtain rfl:=ax.1 h2;rw[kU hx,kU hy];unfold Bo.isSl at h1;split at h1 <;> try (cases h1;done)
  rename_i e hT;exact⟨ff λd=>by simp[Op.equalIn,run_underlying hT],by simp,.inl rfl,λop=>by cases op <;> rfl⟩
 ·obtain⟨h1,h2⟩:=aB.1 he;obtain⟨h3,h4⟩:=bM.1 h2;obtain rfl:=ax.1 h4;obtain⟨ad,cap,vs,rfl,_,hs,_⟩:=uq hx;rw[kU hy];have hs:=hs (by simpa using h3);obtain⟨ad',rfl⟩:=bP.1 hs;unfold Bo.isSl at h1;split at h1 <;> try (cases h1;done)
  rename_i e hT;exact⟨ff λd=>by simp[Op.equalIn,run_underlying hT],by simp,.inl rfl,λop=>by cases op <;> rfl⟩
 ·obtain⟨h1,h2⟩:=aB.1 he;obtain⟨h3,h4⟩:=bM.1 h2;obtain rfl:=ax.1 h4;obtain⟨ad,cap,vs,rfl,_,hs,_⟩:=uq hy;rw[kU hx];have hs:=hs (by simpa using h3);obtain⟨ad',rfl⟩:=bP.1 hs;unfold Bo.isSl at h1;split at h1 <;> try (cases h1;done)
  rename_i e hT;exact⟨ff λd=>by simp[Op.equalIn,run_underlying hT],by simp,.inl rfl,λop=>by cases op <;> rfl⟩
 ·obtain⟨h1,h2⟩:=aB.1 he;obtain⟨h3,h4⟩:=bM.1 h2;obtain rfl:=ax.1 h4;obtain⟨ad,cap,rfl,_,hs,_⟩:=rJ hx;rw[kU hy];have hs:=hs (by simpa using h3);obtain⟨ad',rfl⟩:=bP.1 hs;unfold Bo.isSl at h1;split at h1 <;> try (cases h1;done)
  rename_i e hT;exact⟨ff λd=>by simp[Op.equalIn,run_underlying hT],by simp,.inl rfl,λop=>by cases op <;> rfl⟩
 ·obtain⟨h1,h2⟩:=aB.1 he;obtain⟨h3,h4⟩:=bM.1 h2;obtain rfl:=ax.1 h4;obtain⟨ad,cap,rfl,_,hs,_⟩:=rJ hy;rw[kU hx];have hs:=hs (by simpa using h3);obtain⟨ad',rfl⟩:=bP.1 hs;unfold Bo.isSl at h1;split at h1 <;> try (cases h1;done)
  rename_i e hT;exact⟨ff λd=>by simp[Op.equalIn,run_underlying hT],by simp,.inl rfl,λop=>by cases op <;> rfl⟩
 ·obtain⟨h1,h2⟩:=aB.1 he;obtain rfl:=ax.1 h2;rw[J0 hx,J0 hy];unfold Bo.isPt at h1;split at h1 <;> try (cases h1;done)
  rename_i e hT;exact⟨ff λd=>by simp[Op.equalIn,run_underlying hT],by simp,.inl rfl,λop=>by cases op <;> rfl⟩
 ·obtain⟨h1,h2⟩:=aB.1 he;obtain rfl:=ax.1 h2;obtain⟨ad,rfl,_⟩:=vo hx;rw[J0 hy];unfold Bo.isPt at h1;split at h1 <;> try (cases h1;done)
  rename_i e hT;exact⟨ff λd=>by simp[Op.equalIn,run_underlying hT],by simp,.inl rfl,λop=>by cases op <;> rfl⟩
 ·obtain⟨h1,h2⟩:=aB.1 he;obtain rfl:=ax.1 h2;obtain⟨ad,rfl,_⟩:=vo hy;rw[J0 hx];unfold Bo.isPt at h1;split at h1 <;> try (cases h1;done)
  rename_i e hT;exact⟨ff λd=>by simp[Op.equalIn,run_underlying hT],by simp,.inl rfl,λop=>by cases op <;> rfl⟩
 ·rename_i t q;obtain⟨h1,h2⟩:=aB.1 he;obtain rfl:=ax.1 h2;unfold Bo.isPt at h1;split at h1 <;> try (cases h1;done)
  rename_i e hT;rw[J0 hy];cases q with
  |none=>
   rw[agQ hx];exact⟨ff λd=>by simp[Op.equalIn,run_underlying hT],by simp,.inl rfl,λop=>by cases op <;> rfl⟩
  |some z=>
   obtain⟨b,off,vs,rfl,_⟩:=wB (PB hx);exact⟨ff λd=>by simp[Op.equalIn,run_underlying hT],by simp,.inl rfl,λop=>by cases op <;> rfl⟩
 ·rename_i t q;obtain⟨h1,h2⟩:=aB.1 he;obtain rfl:=ax.1 h2;unfold Bo.isPt at h1;split at h1 <;> try (cases h1;done)
  rename_i e hT;rw[J0 hx];cases q with
  |none=>
   rw[agQ hy];exact⟨ff λd=>by simp[Op.equalIn,run_underlying hT],by simp,.inl rfl,λop=>by cases op <;> rfl⟩
  |some z=>
   obtain⟨b,off,vs,rfl,_⟩:=wB (PB hy);exact⟨ff λd=>by simp[Op.equalIn,run_underlying hT],by simp,.inl rfl,λop=>by cases op <;> rfl⟩
 ·obtain⟨h1,h2⟩:=aB.1 he;obtain rfl:=ax.1 h2;rw[XU hx,XU hy];unfold Bo.isFn at h1;split at h1 <;> try (cases h1;done)
  rename_i hT;exact⟨ff λd=>by simp[Op.equalIn,run_underlying hT],by simp,.inl rfl,λop=>by cases op <;> rfl⟩
 ·obtain⟨h1,h2⟩:=aB.1 he;obtain rfl:=ax.1 h2;obtain⟨vs,rfl,_⟩:=ZE hx;rw[XU hy];unfold Bo.isFn at h1;split at h1 <;> try (cases h1;done)
  rename_i hT;exact⟨ff λd=>by simp[Op.equalIn,run_underlying hT],by simp,.inl rfl,λop=>by cases op <;> rfl⟩
 ·obtain⟨h1,h2⟩:=aB.1 he;obtain rfl:=ax.1 h2;obtain⟨vs,rfl,_⟩:=ZE hy;rw[XU hx];unfold Bo.isFn at h1;split at h1 <;> try (cases h1;done)
  rename_i hT;exact⟨ff λd=>by simp[Op.equalIn,run_underlying hT],by simp,.inl rfl,λop=>by cases op <;> rfl⟩
 ·simp only[au]at he
theorem aoz{op:BinOp}{T:TypeId}{x y:Operand}{u v:Value}(hu:sa u=true)(hv:sa v=true)(hm:P.eqGuardType P.depth T=false):(eqGuard op T x y u v).run P w= .ok () w:=by
 cases u <;> first | (simp[sa]at hu;done) | skip
 cases v <;> first | (simp[sa]at hv;done) | skip
 exact run_eqGuard_agg w op T x y _ _ hm
theorem att(h:Inv C g β s a w){op:BinOp}{T U:TypeId}{x y:Operand}(ho:o.op= .binOp op T x y U){v:aA}(he:(aUL P T op (s.ev x) (s.ev y)).eval=some v):fy P o a w (ia C (s.put o.dst v)):=by
 have hx:=h.ev x;have hy:=h.ev y;have fin:∀z,(binOp op T (a.eval x) (a.eval y)).run P w= .ok z w->(eqGuard op T x y (a.eval x) (a.eval y)).run P w= .ok () w->VS (s.env w g β) v z->fy P o a w (ia C (s.put o.dst v)):=by
  intro z h1 h2 h3;refine h.value h3 ?_
  simp[execOp,ho,h1,h2]
 unfold aUL at he;split at he
 ·rename_i k n k' m hn hm;rw[hn]at hx;rw[hm]at hy;have e1:=vb hx;have e2:=vb hy;obtain⟨z,h1,h2⟩:=apc (P:=P) (w:=w) he T (s.env w g β);exact fin z (by rw[e1,e2];exact h1) (by rw[e1,e2];exact nJ (by simp) rfl) h2
 ·rename_i n m hn hm;rw[hn]at hx;rw[hm]at hy;have e1:=I4 hx;have e2:=I4 hy;obtain⟨z,h1,h2⟩:=ar3 (P:=P) (w:=w) he T (s.env w g β);exact fin z (by rw[e1,e2];exact h1) (by rw[e1,e2];exact nJ (by simp) rfl) h2
 ·have grd:(sa (a.eval x)=false\/(sa (a.eval y)=true/\P.eqGuardType P.depth T=false))->a.eval x≠ .nilIface->(eqGuard op T x y (a.eval x) (a.eval y)).run P w= .ok () w:=by
   intro hh gg;rcases hh with hh | ⟨hh,hm⟩
   ·exact nJ gg hh
   ·rcases iJ (sa (a.eval x)) with hx | hx
    ·exact aoz hx hh hm
    ·exact nJ gg hx
  split at he
  ·obtain⟨b,h1,h2⟩:=av.1 he;obtain rfl:=ax.1 h2;obtain⟨q1,q2,q3,q4⟩:=Zz (w:=w) hx hy h1;refine fin (.bool b) ?_ (grd q3 q2) (vM b)
   rw[q4 .eql];simp[q1]
  ·obtain⟨b,h1,h2⟩:=av.1 he;obtain rfl:=ax.1 h2;obtain⟨q1,q2,q3,q4⟩:=Zz (w:=w) hx hy h1;refine fin (.bool (!b)) ?_ (grd q3 q2) (vM (!b))
   rw[q4 .neq];simp[q1]
  ·simp only[au]at he
theorem aFW(h:Inv C g β s a w){op:UnOp}{T:TypeId}{x:Operand}(ho:o.op= .unOp op T x){v:aA}(he:(baq op (s.ev x)).eval=some v):fy P o a w (ia C (s.put o.dst v)):=by
 have hx:=h.ev x;unfold baq at he;split at he
 ·rename_i b hb;rw[hb]at hx;obtain rfl:=ax.1 he;exact h.value (vM _) (by simp[execOp,ho,Xy hx,Op.unary])
 ·rename_i k n hb;rw[hb]at hx;obtain rfl:=ax.1 he;exact h.value (lz _ _) (by simp[execOp,ho,vb hx,Op.unary,Op.intArith])
 ·rename_i k n hb;rw[hb]at hx;obtain rfl:=ax.1 he;refine h.value (lz _ _) ?_
  simp only[execOp,ho,vb hx,Op.unary,Op.intBits];simp[cD]
 ·simp only[au]at he
end
end Go.Ab
namespace Go.Ab
section
variable {P:Program} {C:Ctx} {g:Nat->lS} {β:Id->Option Pl} {s:AS} {a:Act} {w:World} {o:Oper}
theorem zW{E:Env}{v:aA}{y:Value}(h:VS E v y){n:Int}(he:(asInt v).eval=some n):∃k,y= .int k n:=by
 unfold asInt at he;split at he
 ·rename_i k m;obtain rfl:=ax.1 he;exact⟨k,vb h⟩
 ·simp only[au]at he
theorem zO{k:IntKind}{i:Int}{y:Nat}(code:BoundsCode)(h:0<=i/\i<=(y:Int)):(Instr.sliceBound (.int k i) y code).run P w= .ok i.toNat w:=run_sliceBound w k i y code h.1 h.2
theorem yf(h:Inv C g β s a w){n cap:Nat}(hn:n<=cap){lo hi:Option Operand}{r:Nat×Nat}(he:(bounds s n lo hi).eval=some r)(isS:Bool){mx:Option Value}{cap':Nat}
  (hm:(mx=none/\cap'=cap)\/∃k mv,hi.isSome=true/\mx=some (.int k mv)/\(r.2:Int)<=mv/\mv<=n/\cap'=mv.toNat):
  (Instr.sliceBounds isS n cap (lo.map a.eval) (hi.map a.eval) mx).run P w= .ok (r.1,r.2,cap') w/\r.1<=r.2/\r.2<=n:=by
 unfold bounds at he;obtain⟨hh,h1,h2⟩:=av.1 he;obtain⟨ll,h3,h4⟩:=av.1 h2;obtain rfl:=ax.1 h4;have aOQ:hh<=n/\∀y,hi.map a.eval=some y->∃k i,y= .int k i/\0<=i/\i<=(n:Int)/\hh=i.toNat:=by
  cases hi with
  |none=>
   simp only at h1;obtain rfl:=ax.1 h1;exact⟨aw _,λy hy=>by cases hy⟩
  |some x=>
   simp only at h1;obtain⟨i,q1,q2⟩:=av.1 h1;obtain⟨q3,q4⟩:=bM.1 q2;obtain rfl:=ax.1 q4;simp only[ba]at q3;obtain⟨k,hk⟩:=zW (h.ev x) q1;refine⟨by omega,λy hy=> ?_⟩;simp only[dQ,ay]at hy;exact⟨k,i,by rw[<-hy];exact hk,q3.1,q3.2,rfl⟩
 have aJI:hi.map a.eval=none->hh=n:=by
  intro hy;cases hi with
  |none=>simp only at h1;exact(ax.1 h1).symm
  |some x=>cases hy
 have lo1:ll<=hh/\∀y,lo.map a.eval=some y->∃k i,y= .int k i/\0<=i/\i<=(hh:Int)/\ll=i.toNat:=by
  cases lo with
  |none=>
   simp only at h3;obtain rfl:=ax.1 h3;exact⟨aL _,λy hy=>by cases hy⟩
  |some x=>
   simp only at h3;obtain⟨i,q1,q2⟩:=av.1 h3;obtain⟨q3,q4⟩:=bM.1 q2;obtain rfl:=ax.1 q4;simp only[ba]at q3;obtain⟨k,hk⟩:=zW (h.ev x) q1;refine⟨by omega,λy hy=> ?_⟩;simp only[dQ,ay]at hy;exact⟨k,i,by rw[<-hy];exact hk,q3.1,q3.2,rfl⟩
 have lo0:lo.map a.eval=none->ll=0:=by
  intro hy;cases lo with
  |none=>simp only at h3;exact(ax.1 h3).symm
  |some x=>cases hy
 refine⟨?_,lo1.1,aOQ.1⟩;unfold Instr.sliceBounds;rcases hm with⟨rfl,rfl⟩ | ⟨k2,mv,hs,rfl,bcS,beM,rfl⟩
 ·cases aZ5:hi.map a.eval with
  |none=>
   obtain rfl:=aJI aZ5;cases XI:lo.map a.eval with
   |none=>
    obtain rfl:=lo0 XI;rfl
   |some y=>
    obtain⟨k,i,rfl,q1,q2,rfl⟩:=lo1.2 y XI;simp only[Sem.run_bind,Sem.run_pure,Result.andThen_ok,zO _ ⟨q1,q2⟩]
  |some z=>
   obtain⟨k',i',rfl,p1,p2,rfl⟩:=aOQ.2 z aZ5;have hb:∀code,(Instr.sliceBound (.int k' i') cap' code).run P w= .ok i'.toNat w:=λcode=>zO code ⟨p1,by omega⟩
   cases XI:lo.map a.eval with
   |none=>
    obtain rfl:=lo0 XI;simp only[Sem.run_bind,Sem.run_pure,Result.andThen_ok,hb]
   |some y=>
    obtain⟨k,i,rfl,q1,q2,rfl⟩:=lo1.2 y XI;simp only[Sem.run_bind,Sem.run_pure,Result.andThen_ok,hb,zO _ ⟨q1,q2⟩]
 ·cases aZ5:hi.map a.eval with
  |none=>cases hi <;> simp_all
  |some z=>
   obtain⟨k',i',rfl,p1,p2,rfl⟩:=aOQ.2 z aZ5;have bcS:((i'.toNat:Nat):Int)<=mv:=bcS;have h0:∀code,(Instr.sliceBound (.int k2 mv) cap code).run P w= .ok mv.toNat w:=λcode=>zO code ⟨by omega,by omega⟩
   have hb:∀code,(Instr.sliceBound (.int k' i') mv.toNat code).run P w= .ok i'.toNat w:=λcode=>zO code ⟨p1,by omega⟩
   cases XI:lo.map a.eval with
   |none=>
    obtain rfl:=lo0 XI;simp only[Sem.run_bind,Sem.run_pure,Result.andThen_ok,hb,h0]
   |some y=>
    obtain⟨k,i,rfl,q1,q2,rfl⟩:=lo1.2 y XI;simp only[Sem.run_bind,Sem.run_pure,Result.andThen_ok,hb,h0,zO _ ⟨q1,q2⟩]
theorem oK{T:TypeId}{z:Nat}(h1:kO P T=some z)(h2:xN P T=none):∃e,P.underlying T=some (.slice e)/\P.cellsOf e=z/\0 < z:=by
 unfold kO at h1;unfold xN at h2;split at h1
 ·rename_i n e hT;rw[hT]at h2;cases h2
 ·rename_i e hT;cases hc:P.cellsOf e with
  |zero=>rw[hc]at h1;cases h1
  |succ k=>
   rw[hc]at h1;simp only[ay]at h1;exact⟨e,hT,by omega,by omega⟩
 ·cases h1
theorem yH{T:TypeId}{z n:Nat}(h1:kO P T=some z)(h2:xN P T=some n):∃e,P.underlying T=some (.array n e)/\P.cellsOf e=z/\0 < z:=by
 unfold kO at h1;unfold xN at h2;split at h1
 ·rename_i n e hT;rw[hT]at h2;simp only[ay]at h2;subst h2;cases hc:P.cellsOf e with
  |zero=>rw[hc]at h1;cases h1
  |succ k=>
   rw[hc]at h1;simp only[ay]at h1;exact⟨e,hT,by omega,by omega⟩
 ·rename_i e hT;rw[hT]at h2;cases h2
 ·cases h1
theorem pj{e:TypeId}{z:Nat}(h:P.cellsOf e=z)(hz:0 < z)(w:World):(sizeOf e).run P w= .ok z w:=by
 unfold Program.cellsOf at h;cases hi:P.info? e with
 |none=>rw[hi]at h;simp at h;omega
 |some i=>rw[hi]at h;rw[run_sizeOf hi];simpa using h
set_option maxHeartbeats 1000000 in
theorem acK(h:Inv C g β s a w){T:TypeId}{x:Operand}{lo hi mx:Option Operand}(ho:o.op= .slice T x lo hi mx)
  (hm:mx=none\/∃m y hv mv,mx=some m/\hi=some y/\(asInt (s.ev y)).eval=some hv/\(asInt (s.ev m)).eval=some mv/\0<=hv/\hv<=mv/\mv<=aRp (s.ev x))
  {v:aA} (he:(IZ P s T (s.ev x) lo hi).eval=some v):fy P o a w (ia C (s.put o.dst (aom mx v))):=by
 have hx:=h.ev x;have fin:∀z,(Instr.sliceAt T (a.eval x) (lo.map a.eval) (hi.map a.eval) (mx.map a.eval)).run P w= .ok z w->VS (s.env w g β) (aom mx v) z->fy P o a w (ia C (s.put o.dst (aom mx v))):=by intro z h1 h2;exact h.value h2 (dR (f:=Instr.sliceAt T (a.eval x) (lo.map a.eval) (hi.map a.eval) (mx.map a.eval)) (by simp only[execOp,ho]) h1)
 have no:∀ {q:Prop},aRp (s.ev x)= -1->(mx=none->q)->q:=by
  intro q h1 h2;rcases hm with h3 | ⟨_,_,hv,mv,_,_,_,_,h3,h4,h5⟩
  ·exact h2 h3
  ·omega
 have sl:∀(e:TypeId) (z:Nat) (ad:Option Addr) (len cap:Nat) (b:Nat×Nat),aRp (s.ev x)=(len:Int)->P.underlying T=some (.slice e)->P.cellsOf e=z->0 < z->a.eval x= .slice ad len cap->len<=cap->(bounds s len lo hi).eval=some b->
   ∃cap',(Instr.sliceAt T (a.eval x) (lo.map a.eval) (hi.map a.eval) (mx.map a.eval)).run P w= .ok (.slice (if cap'=b.1 then ad else ad.map (·.add (b.1*z))) (b.2 - b.1) (cap' - b.1)) w/\b.1<=b.2/\b.2<=len/\b.2<=cap'/\cap'<=cap/\(mx=none->cap'=cap):=by
  intro e z ad len cap b hL hT hz tS hy aGn hb;rcases hm with rfl | ⟨m,y,hv,mv,rfl,rfl,q1,q2,q3,q4,q5⟩
  ·obtain⟨h1,h2,h3⟩:=yf (P:=P) h aGn hb true (.inl ⟨rfl,rfl⟩);refine⟨cap,?_,h2,h3,by omega,aw _,λ_=>rfl⟩;rw[hy];simp[Instr.sliceAt,Instr.slice,run_underlying hT,h1,pj hz tS]
  ·obtain⟨k,hk⟩:=zW (h.ev m) q2;have XG:(b.2:Int)<=mv:=by obtain⟨hh,h1,h2⟩:=av.1 hb;obtain⟨i,r1,r2⟩:=av.1 h1;obtain⟨r3,r4⟩:=bM.1 r2;obtain rfl:=ax.1 r4;obtain⟨ll,_,h4⟩:=av.1 h2;obtain rfl:=ax.1 h4;rw[q1]at r1;obtain rfl:=bk r1;show((hv.toNat:Nat):Int)<=mv;omega
   obtain⟨h1,h2,h3⟩:=yf (P:=P) h aGn hb true (mx:=some (.int k mv)) (cap':=mv.toNat) (.inr ⟨k,mv,rfl,rfl,XG,by omega,rfl⟩);refine⟨mv.toNat,?_,h2,h3,by omega,by omega,λh=>by cases h⟩;rw[hy,dQ (a:=m),hk];simp[Instr.sliceAt,Instr.slice,run_underlying hT,pj hz tS];simp only[dQ]at h1;simp[h1]
 have ar:∀(e:TypeId) (z n:Nat) (ad:Addr) (b:Nat×Nat),mx=none->P.underlying T=some (.array n e)->P.cellsOf e=z->0 < z->a.eval x= .pointer (some ad)->(bounds s n lo hi).eval=some b->
   (Instr.sliceAt T (a.eval x) (lo.map a.eval) (hi.map a.eval) (mx.map a.eval)).run P w= .ok (.slice (some (if n=b.1 then ad else ad.add (b.1*z))) (b.2 - b.1) (n - b.1)) w/\b.1<=b.2/\b.2<=n:=by
  intro e z n ad b hN hT hz tS hy hb;obtain⟨h1,h2,h3⟩:=yf (P:=P) h (aw n) hb false (.inl ⟨rfl,rfl⟩);refine⟨?_,h2,h3⟩;rw[hy,hN];simp[Instr.sliceAt,Instr.sureAddr,run_underlying hT,h1,pj hz tS]
 have cutR:∀(t:Ty) (z:Nat) (ad ad':Option Addr) (len' cap':Nat) (vs:List Value) (l:List t.den) (b:Nat×Nat),z=t.size->FY (s.env w g β) ad vs->bz (cW (s.env w g β) t) vs l->b.1<=b.2->b.2<=l.length->
   (∀bb off,ad=some ⟨bb,off,none⟩->b.1 < b.2->ad'=some ⟨bb,off+b.1*z,none⟩)->(b.1 < b.2->ad'.isSome=true)->len'=b.2 - b.1->len'<=cap'->VS (s.env w g β) (.d (.slice t) (cut l b.1 (b.2 - b.1))) (.slice ad' len' cap'):=by
  intro t z ad ad' len' cap' vs l b hz hr hc h1 h2 baO qu hlen hle;subst hz hlen;have aGm:(cut l b.1 (b.2 - b.1)).length=b.2 - b.1:=EI (by omega);refine⟨_,?_,rfl⟩;simp only[V,cW];refine⟨ad',cap',(vs.drop (b.1*t.size)).take ((b.2 - b.1)*t.size),by rw[aGm],by omega,by rw[aGm];intro hp;exact qu (by omega),?_,MD hc b.1 _⟩;intro i v hi;rw[cZ]at hi;split at hi
  ·rename_i bdO;rw[fJ]at hi;obtain⟨bb,off,e,hh⟩:=hr _ v hi;have gv:b.1 < b.2:=by
    rcases pM b.1 b.2 with h' | h'
    ·exact h'
    ·rw[kg h',mK]at bdO;omega
   exact⟨bb,_,baO bb off e gv,by rw[eK];exact hh⟩
  ·cases hi
 unfold IZ at he;split at he
 ·rename_i st ml;rw[ml]at hx;have e1:=I4 hx;obtain⟨h1,h2⟩:=aB.1 he;obtain⟨b,h3,h4⟩:=av.1 h2;obtain rfl:=ax.1 h4;split at h1 <;> try (cases h1;done)
  rename_i hT;obtain⟨q1,q2,q3⟩:=yf (P:=P) h (aw _) h3 false (.inl ⟨rfl,rfl⟩);refine no (by rw[ml];rfl) λhN=> ?_
  subst hN;refine fin (.string (st.extract b.1 b.2)) ?_ (aiD _)
  rw[e1];simp[Instr.sliceAt,Instr.slice,run_underlying hT,q1]
 ·rename_i t l hl;rw[hl]at hx;obtain⟨ad,cap,vs,hy,aGn,qu,rY,vY⟩:=uq hx;obtain⟨h1,h2⟩:=aB.1 he;obtain⟨b,h3,h4⟩:=av.1 h2;obtain rfl:=ax.1 h4;split at h1 <;> try (cases h1;done)
  rename_i z Vb S3;obtain⟨e,hT,hz,tS⟩:=oK Vb S3;have aCM:z=t.size:=by simpa using h1
  obtain⟨cap',q1,q2,q3,q4,_,_⟩:=sl e z ad _ cap b (by rw[hl];rfl) hT hz tS hy aGn h3;refine fin _ q1 ?_
  rw[show aom mx (.d (.slice t) (cut l b.1 (b.2 - b.1)))= .d (.slice t) (cut l b.1 (b.2 - b.1)) by cases mx <;> rfl];refine cutR t z ad _ _ _ vs l b aCM rY vY q2 q3 ?_ ?_ rfl (by omega)
  ·intro bb off e1 gv;rw[if_neg (by omega),e1];simp[Addr.add_lit]
  ·intro gv;rw[if_neg (by omega)];have:=qu (by omega);cases ad <;> simp_all
 ·rename_i hl;rw[hl]at hx;have hy:=kU hx;obtain⟨h1,h2⟩:=aB.1 he;obtain⟨b,h3,h4⟩:=av.1 h2;obtain rfl:=ax.1 h4;split at h1 <;> try (cases h1;done)
  rename_i z Vb S3;obtain⟨e,hT,hz,tS⟩:=oK Vb S3;obtain⟨cap',q1,q2,q3,q4,q6,q5⟩:=sl e z none 0 0 b (by rw[hl];rfl) hT hz tS hy (aw _) h3;have R5:b.1=0:=by omega
  have XG:b.2=0:=by omega
  have XH:cap'=0:=by omega
  refine fin _ q1 ?_
  rw[show aom mx .cV= .cV by cases mx <;> rfl,R5,XG,XH];exact⟨_,by simp[V],rfl⟩
 ·rename_i id ver p c i len hl;rw[hl]at hx;obtain⟨ad,cap,hy,aGn,qu,ZP,fk⟩:=rJ hx;obtain⟨r,aJN,he⟩:=av.1 he;obtain⟨h1,h2⟩:=aB.1 he;obtain⟨b,h3,h4⟩:=av.1 h2;obtain rfl:=ax.1 h4;split at h1 <;> try (cases h1;done)
  rename_i z Vb S3;obtain⟨e,hT,hz,tS⟩:=oK Vb S3;have aCM:z=r.2.1.size:=by simpa using h1
  obtain⟨cap',q1,q2,q3,q4,q6,q5⟩:=sl e z ad _ cap b (by rw[hl];rfl) hT hz tS hy aGn h3;obtain⟨p',aXL,agT⟩:∃p',aom mx (.bu id ver p (c+b.1*r.2.1.size) (i+b.1) (b.2 - b.1))= .bu id ver p' (c+b.1*r.2.1.size) (i+b.1) (b.2 - b.1)/\(p'=[]->p=[]/\mx=none):=by
   cases mx with
   |none=>exact⟨p,rfl,λh=>⟨h,rfl⟩⟩
   |some m=>exact⟨p++ [.arr],rfl,λh=>by simp at h⟩
  refine fin _ q1 ?_
  rw[aXL];refine⟨_,?_,rfl⟩;simp only[V];refine⟨_,_,rfl,by omega,?_,ZP,λhc=> ?_⟩
  ·intro gv;rw[if_neg (by omega)];have:=qu (by omega);cases ad <;> simp_all
  ·have fk:=fk hc;cases hp:β id with
   |none=>
    have hp':(s.env w g β).β id=none:=hp;rw[hp']at fk ⊢;simp only at fk ⊢;obtain⟨rfl,rfl,rfl⟩:=fk;have XH:cap'=0:=by omega
    refine⟨by simp,by omega,by omega⟩
   |some pl=>
    have hp':(s.env w g β).β id=some pl:=hp;rw[hp']at fk ⊢;simp only at fk ⊢;refine⟨λhh=> ?_,λbbl aJI=> ?_⟩
    ·by_cases aVC:cap'=b.1
     ·rw[if_pos aVC];have aZY:b.1=0:=by omega
      rw[aZY,mK,cd];exact fk.1 (.inr (by omega))
     ·rw[if_neg aVC,fk.1 (by omega),<-aCM];simp[Addr.add_lit]
    ·obtain⟨e1,e2⟩:=agT bbl;have:=fk.2 e1 (by omega);have:=q5 e2;omega
 ·rename_i id ver p n hl;rw[hl]at hx;obtain⟨ad,hy,ZP,fk⟩:=vo hx;obtain⟨r,aJN,he⟩:=av.1 he;obtain⟨h1,h2⟩:=aB.1 he;obtain⟨h5,h6⟩:=bM.1 h2;obtain⟨b,h3,h4⟩:=av.1 h6;obtain rfl:=ax.1 h4;split at h1 <;> try (cases h1;done)
  rename_i z m Vb S3;obtain⟨e,hT,hz,tS⟩:=yH Vb S3;have aCM:z=r.2.1.size:=by simpa using h1
  rw[S3,dK]at h3;refine no (by rw[hl];rfl) λhN=> ?_
  obtain⟨q1,q2,q3⟩:=ar e z m ad b hN hT hz tS hy h3;subst hN;obtain⟨fr,c0,cM,_⟩:=TK rfl h.bI aJN;obtain⟨pl,hp,aCt⟩:=fk ⟨fr,c0,cM⟩;refine fin _ q1 ⟨_,?_,rfl⟩;simp only[aom,V];refine⟨_,_,rfl,by omega,λ_=>rfl,ZP,λ_=> ?_⟩;rw[hp];simp only;refine⟨λhh=> ?_,λbbl=>by simp at bbl⟩;rw[aCt];by_cases aVC:m=b.1
  ·have aZY:b.1=0:=by omega
   rw[if_pos aVC,aZY,mK,cd]
  ·rw[if_neg aVC,<-aCM,Addr.add_lit]
 ·rename_i n t l hl;rw[hl]at hx;obtain⟨bb,off,vs,hy,rY,hR⟩:=wB hx;obtain⟨h1,h2⟩:=aB.1 he;obtain⟨b,h3,h4⟩:=av.1 h2;obtain rfl:=ax.1 h4;split at h1 <;> try (cases h1;done)
  rename_i z m Vb S3;obtain⟨e,hT,hz,tS⟩:=yH Vb S3;simp only[aq,dp]at h1;obtain⟨aCM,rfl⟩:=h1;refine no (by rw[hl];rfl) λhN=> ?_
  obtain⟨q1,q2,q3⟩:=ar e z m _ b hN hT hz tS hy h3;subst hN;simp only[cW]at hR;obtain⟨hlen,vY⟩:=hR;refine fin _ q1 (cutR t z (some ⟨bb,off,none⟩) _ _ _ vs l b aCM rY vY q2 (by omega) ?_ (λ_=>rfl) rfl (by omega));intro bb' off' e1 gv;simp only[ay,Addr.mk.injEq,ix]at e1;obtain⟨rfl,rfl⟩:=e1;rw[if_neg (by omega),Addr.add_lit]
 ·simp only[au]at he
end
end Go.Ab
namespace Go.Ab
section
variable {P:Program} {C:Ctx} {g:Nat->lS} {β:Id->Option Pl} {s:AS} {a:Act} {w:World} {o:Oper}
theorem ZY(h:Inv C g β s a w){T:TypeId}{x y:Operand}(ho:o.op= .indexAddr T x y){i:Int}(hi:(asInt (s.ev y)).eval=some i){v:aA}(he:(rZ P s T (s.ev x) i).eval=some v):fy P o a w (ia C (s.put o.dst v)):=by
 have hx:=h.ev x;obtain⟨k,hy⟩:=zW (h.ev y) hi;have fin:∀z,(Instr.indexAt T (a.eval x) (a.eval y)).run P w= .ok z w->VS (s.env w g β) v z->fy P o a w (ia C (s.put o.dst v)):=by intro z h1 h2;exact h.value h2 (dR (f:=Instr.indexAt T (a.eval x) (a.eval y)) (by simp only[execOp,ho]) h1)
 have sl:∀(e:TypeId) (z:Nat) (ad:Addr) (len cap:Nat),P.underlying T=some (.slice e)->P.cellsOf e=z->0 < z->a.eval x= .slice (some ad) len cap->0<=i/\i < (len:Int)->
   (Instr.indexAt T (a.eval x) (a.eval y)).run P w= .ok (.pointer (some (ad.add (i.toNat*z)))) w:=by
  intro e z ad len cap hT hz tS hv hb;rw[hv,hy];simp[Instr.indexAt,asIntOf,run_underlying hT,hb,pj hz tS]
 have ar:∀(e:TypeId) (z n:Nat) (ad:Addr),P.underlying T=some (.array n e)->P.cellsOf e=z->0 < z->a.eval x= .pointer (some ad)->0<=i/\i < (n:Int)->
   (Instr.indexAt T (a.eval x) (a.eval y)).run P w= .ok (.pointer (some (ad.add (i.toNat*z)))) w:=by
  intro e z n ad hT hz tS hv hb;rw[hv,hy];simp[Instr.indexAt,Instr.sureAddr,asIntOf,run_underlying hT,hb,pj hz tS]
 have elt:∀(t:Ty) (z:Nat) (bb off:Nat) (vs:List Value) (l:List t.den),z=t.size->FY (s.env w g β) (some ⟨bb,off,none⟩) vs->bz (cW (s.env w g β) t) vs l->0<=i/\i < (l.length:Int)->
   VS (s.env w g β) (.dL t (nth t l i.toNat)) (.pointer (some ⟨bb,off+i.toNat*z,none⟩)):=by
  intro t z bb off vs l hz hr hc hb;subst hz;have gv:i.toNat < l.length:=by omega
  rw[aa2 gv];obtain⟨hp,_⟩:=QS hc gv;refine⟨_,?_,rfl⟩;simp only[V];refine⟨_,_,_,rfl,λj v hj=> ?_,hp⟩;rw[cZ]at hj;split at hj
  ·rw[fJ]at hj;obtain⟨b',o',e,hh⟩:=hr _ v hj;simp only[ay,Addr.mk.injEq,ix]at e;obtain⟨rfl,rfl⟩:=e;exact⟨_,_,rfl,by rw[eK];exact hh⟩
  ·cases hj
 unfold rZ at he;split at he
 ·rename_i t l hl;rw[hl]at hx;obtain⟨ad,cap,vs,hv,aGn,qu,rY,vY⟩:=uq hx;obtain⟨h1,h2⟩:=aB.1 he;obtain⟨h3,h4⟩:=bM.1 h2;obtain rfl:=ax.1 h4;simp only[ba]at h3;split at h1 <;> try (cases h1;done)
  rename_i z Vb S3;obtain⟨e,hT,hz,tS⟩:=oK Vb S3;have aCM:z=t.size:=by simpa using h1
  have hlen:=bz.length (λc x hx=>cW.size hx) vY;have gv:i.toNat < l.length:=by omega
  have h0:0 < vs.length:=by rw[hlen];exact Nat.mul_pos (by omega) (by omega)
  obtain⟨bb,off,e1,_⟩:=rY 0 vs[0] (by simp[h0]);subst e1;have:=sl e z _ _ cap hT hz tS hv h3;rw[Addr.add_lit]at this;exact fin _ this (elt t z bb off vs l aCM rY vY h3)
 ·rename_i n t l hl;rw[hl]at hx;obtain⟨bb,off,vs,hv,rY,hR⟩:=wB hx;obtain⟨h1,h2⟩:=aB.1 he;obtain⟨h3,h4⟩:=bM.1 h2;obtain rfl:=ax.1 h4;simp only[ba]at h3;split at h1 <;> try (cases h1;done)
  rename_i z m Vb S3;obtain⟨e,hT,hz,tS⟩:=yH Vb S3;simp only[aq,dp]at h1;obtain⟨aCM,rfl⟩:=h1;simp only[cW]at hR;have:=ar e z m _ hT hz tS hv h3;rw[Addr.add_lit]at this;exact fin _ this (elt t z bb off vs l aCM rY hR.2 (by rw[hR.1];exact h3))
 ·rename_i id ver p c j len hl;rw[hl]at hx;obtain⟨ad,cap,hv,aGn,qu,ZP,fk⟩:=rJ hx;obtain⟨r,aJN,he⟩:=av.1 he;obtain⟨h1,h2⟩:=aB.1 he;obtain⟨h3,h4⟩:=bM.1 h2;obtain rfl:=ax.1 h4;simp only[ba]at h3;split at h1 <;> try (cases h1;done)
  rename_i z Vb S3;obtain⟨e,hT,hz,tS⟩:=oK Vb S3;have aCM:z=r.2.1.size:=by simpa using h1
  have hs:=qu (by omega);obtain⟨ad',rfl⟩:=bP.1 hs;refine fin _ (sl e z ad' len cap hT hz tS hv h3) ⟨_,?_,rfl⟩;simp only[V];refine⟨_,rfl,ZP,λhc=> ?_⟩;have fk:=fk hc;cases hp:β id with
  |none=>
   have hp':(s.env w g β).β id=none:=hp;rw[hp']at fk;exact absurd fk.1 (by simp)
  |some pl=>
   have hp':(s.env w g β).β id=some pl:=hp;rw[hp']at fk;have e1:=fk.1 (.inl (by omega));simp only[ay]at e1;exact⟨pl,hp,by rw[e1,Addr.add_lit,aCM]⟩
 ·rename_i id ver p n hl;rw[hl]at hx;obtain⟨ad,hv,ZP,fk⟩:=vo hx;obtain⟨h1,h2⟩:=aB.1 he;obtain⟨h3,h4⟩:=bM.1 h2;obtain rfl:=ax.1 h4;simp only[ba]at h3;split at h1 <;> try (cases h1;done)
  rename_i z m Vb S3;obtain⟨e,hT,hz,tS⟩:=yH Vb S3;rw[S3,dK]at h3;refine fin _ (ar e z m ad hT hz tS hv h3) ⟨_,?_,rfl⟩;simp only[V];refine⟨_,rfl,ZP,λhc=> ?_⟩;obtain⟨pl,hp,aCt⟩:=fk hc;exact⟨pl,hp,by rw[aCt,Addr.add_lit,Vb,dK]⟩
 ·simp only[au]at he
theorem Ga{T:TypeId}{f off:Nat}{ft:TypeId}(h:fieldInfo P T f=some (off,ft)):∃fs fd,P.underlying T=some (.struct fs)/\fs[f]? =some fd/\fd.offset=off/\fd.type=ft:=by
 unfold fieldInfo at h;split at h
 ·rename_i fs hT;split at h
  ·rename_i fd hf;simp only[ay,cv]at h;exact⟨fs,fd,hT,hf,h.1,h.2⟩
  ·cases h
 ·cases h
theorem Fa{E:Env}:∀(x:aA) (f off:Nat) (v:aA) (cs:List Value),V E x cs->partOf x f=some (off,v)->V E v ((cs.drop off).take v.size)/\off+v.size<=cs.length:=by
 intro x f
 induction f generalizing x with
 |zero=>
  intro off v cs hx h;cases x with
  |d t y=>
   cases t <;> simp only[partOf,reduceCtorEq]at h;rename_i ta tb;simp only[ay,cv]at h;obtain⟨rfl,rfl⟩:=h;simp only[V,cW]at hx ⊢;obtain⟨ca,cb,rfl,ha,hb⟩:=hx;have:=ha.size;simp only[aA.size,aF,ai,aJ];rw[ky this];exact⟨ha,by omega⟩
  |pr b c=>
   simp only[partOf,ay,cv]at h;obtain⟨rfl,rfl⟩:=h;simp only[V]at hx;obtain⟨ca,cb,rfl,ha,hb⟩:=hx;have:=ha.size;simp only[aF,ai,aJ];rw[ky this];exact⟨ha,by omega⟩
  |_=>simp only[partOf,reduceCtorEq]at h
 |succ f ih=>
  intro off v cs hx h;have second:∀(ca cb:List Value) (n:Nat) (b:aA),cs=ca++cb->ca.length=n->V E b cb->(match partOf b f with | some (o,v)=>some (n+o,v) | none=>none)=some (off,v)->V E v ((cs.drop off).take v.size)/\off+v.size<=cs.length:=by
   intro ca cb n b e hl hb hh;cases hp:partOf b f with
   |none=>rw[hp]at hh;cases hh
   |some r=>
    obtain⟨o',v'⟩:=r;rw[hp]at hh;simp only[ay,cv]at hh;obtain⟨rfl,rfl⟩:=hh;obtain⟨h1,h2⟩:=ih b o' v' cb hb hp;subst e;rw[<-hl,jI,du (by omega),aR,Nat.add_sub_cancel_left];exact⟨h1,by simp only[ai];omega⟩
  cases x with
  |d t y=>
   cases t with
   |pair ta tb=>
    simp only[partOf]at h;simp only[V,cW]at hx;obtain⟨ca,cb,e,ha,hb⟩:=hx;exact second ca cb ta.size (.d tb y.2) e ha.size (by simpa only[V]using hb) h
   |_=>simp only[partOf,reduceCtorEq]at h
  |pr b c=>
   simp only[partOf]at h;simp only[V]at hx;obtain⟨ca,cb,e,ha,hb⟩:=hx;exact second ca cb b.size c e ha.size hb h
  |_=>simp only[partOf,reduceCtorEq]at h
theorem ZC(h:Inv C g β s a w){T:TypeId}{x:Operand}{f:Nat}(ho:o.op= .fieldAddr T x f){v:aA}(he:(ES P T (s.ev x) f).eval=some v):fy P o a w (ia C (s.put o.dst v)):=by
 have hx:=h.ev x;unfold ES at he;split at he
 ·rename_i off ft hf;obtain⟨fs,fd,hT,aZ2,rfl,rfl⟩:=Ga hf;obtain⟨h1,h2⟩:=aB.1 he;have hz:P.cellsOf fd.type≠0:=by simpa using h1
  have run:∀bb n,a.eval x= .pointer (some ⟨bb,n,none⟩)->(Instr.fieldAt T (a.eval x) f).run P w= .ok (.pointer (some ⟨bb,n+fd.offset,none⟩)) w:=by intro bb n hy;rw[hy];simp[Instr.fieldAt,run_underlying hT,aZ2,Instr.sureAddr,fieldPlace,pj (P:=P) (e:=fd.type) rfl (by omega),hz,Addr.add_lit]
  have runS:∀ad,a.eval x= .pointer (some ad)->(Instr.fieldAt T (a.eval x) f).run P w= .ok (.pointer (some (ad.add fd.offset))) w:=by intro ad hy;rw[hy];simp[Instr.fieldAt,run_underlying hT,aZ2,Instr.sureAddr,fieldPlace,pj (P:=P) (e:=fd.type) rfl (by omega),hz]
  have fin:∀z,(Instr.fieldAt T (a.eval x) f).run P w= .ok z w->VS (s.env w g β) v z->fy P o a w (ia C (s.put o.dst v)):=by intro z h1 h2;exact h.value h2 (dR (f:=Instr.fieldAt T (a.eval x) f) (by simp only[execOp,ho]) h1)
  split at h2
  ·rename_i id ver p n hl;rw[hl]at hx;obtain rfl:=ax.1 h2;obtain⟨ad,hy,ZP,fk⟩:=vo hx;refine fin _ (runS ad hy) ⟨_,?_,rfl⟩;simp only[V];refine⟨_,rfl,ZP,λhc=> ?_⟩;obtain⟨pl,hp,aCt⟩:=fk hc;exact⟨pl,hp,by rw[aCt,Addr.add_lit]⟩
  ·rename_i t y hl;rw[hl]at hx;obtain⟨bb,off,vs,hy,rY,hR⟩:=wB hx;split at h2
   ·rename_i o' t' y' hp;obtain⟨h3,h4⟩:=aB.1 h2;obtain rfl:=ax.1 h4;have h3:fd.offset=o':=by simpa using h3
    obtain⟨hV,hle⟩:=Fa (.d t y) f o' (.d t' y') vs (by simpa only[V]using hR) hp;refine fin _ (run bb off hy) ⟨_,?_,rfl⟩;simp only[V]at hV ⊢;refine⟨_,_,_,rfl,λj u hj=> ?_,hV⟩;rw[cZ]at hj;split at hj
    ·rw[fJ]at hj;obtain⟨b',o'',e,hh⟩:=rY _ u hj;simp only[ay,Addr.mk.injEq,ix]at e;obtain⟨rfl,rfl⟩:=e;exact⟨_,_,rfl,by rw[h3,eK];exact hh⟩
    ·cases hj
   ·simp only[au]at h2
  ·rename_i t q hl;obtain⟨y,e,h5⟩:=wY.1 h2;subst e;rw[hl]at hx;have hx:=PB hx;obtain⟨bb,off,vs,hy,rY,hR⟩:=wB hx;split at h5
   ·rename_i o' t' y' hp;obtain⟨h3,h4⟩:=aB.1 h5;obtain rfl:=ax.1 h4;have h3:fd.offset=o':=by simpa using h3
    obtain⟨hV,hle⟩:=Fa (.d t y) f o' (.d t' y') vs (by simpa only[V]using hR) hp;refine fin _ (run bb off hy) ⟨_,?_,rfl⟩;simp only[V]at hV ⊢;refine⟨_,_,_,rfl,λj u hj=> ?_,hV⟩;rw[cZ]at hj;split at hj
    ·rw[fJ]at hj;obtain⟨b',o'',e,hh⟩:=rY _ u hj;simp only[ay,Addr.mk.injEq,ix]at e;obtain⟨rfl,rfl⟩:=e;exact⟨_,_,rfl,by rw[h3,eK];exact hh⟩
    ·cases hj
   ·simp only[au]at h5
  ·simp only[au]at h2
 ·simp only[au]at he
theorem aeb{x:aA}{f:Nat}{r:Nat×aA}(h:partOf x f=some r):x.agg=true/\x.eL=true:=by
 cases x with
 |d t y=>cases t <;> cases f <;> simp[partOf]at h <;> exact⟨rfl,rfl⟩
 |pr b c=>exact⟨rfl,rfl⟩
 |_=>cases f <;> simp[partOf]at h
theorem Hy{T:TypeId}{v:aA}(h:fits P T v=true):Nj P T v.agg=true/\P.cellsOf T=v.size/\v.eL=true:=by unfold fits at h;simp only[aq,dp]at h;exact⟨h.2,h.1.2,h.1.1⟩
theorem auz(h:Inv C g β s a w){T:TypeId}{x:Operand}{f:Nat}(ho:o.op= .field T x f){v:aA}(he:(ajP P T (s.ev x) f).eval=some v):fy P o a w (ia C (s.put o.dst v)):=by
 have hx:=h.ev x;unfold ajP at he;split at he
 ·rename_i off ft o' v' hf hp;obtain⟨fs,fd,hT,aZ2,rfl,rfl⟩:=Ga hf;obtain⟨h1,h2⟩:=aB.1 he;obtain rfl:=ax.1 h2;simp only[aq,dp]at h1;obtain⟨rfl,ZR⟩:=h1;obtain⟨Oh,auJ⟩:=aeb hp;obtain⟨cs,hV,hO⟩:=hx.eL auJ;rw[Oh]at hO;have hy:a.eval x= .agg cs.toArray:=hO;obtain⟨hVp,hle⟩:=Fa _ _ _ _ cs hV hp;obtain⟨q1,q2,q3⟩:=Hy ZR;obtain⟨y,hr,hOy⟩:=xk (w:=w) q1 q2 (λhh=>aA.arQ hh) hle;refine h.value (VS.of hVp hOy) (dR (f:=Instr.field T (a.eval x) f) (by simp only[execOp,ho]) ?_);rw[hy];simp[Instr.field,run_underlying hT,aZ2,asAgg,hr]
 ·simp only[au]at he
theorem auW(h:Inv C g β s a w){T:TypeId}{x y:Operand}(ho:o.op= .index T x y){i:Int}(hi:(asInt (s.ev y)).eval=some i){v:aA}(he:(aj9 P T (s.ev x) i).eval=some v):fy P o a w (ia C (s.put o.dst v)):=by
 have hx:=h.ev x;obtain⟨k,hy⟩:=zW (h.ev y) hi;have fin:∀z,(Instr.index T (a.eval x) (a.eval y)).run P w= .ok z w->VS (s.env w g β) v z->fy P o a w (ia C (s.put o.dst v)):=by intro z h1 h2;exact h.value h2 (dR (f:=Instr.index T (a.eval x) (a.eval y)) (by simp only[execOp,ho]) h1)
 unfold aj9 at he;split at he
 ·rename_i n t l m e hl hT;rw[hl]at hx;obtain⟨h1,h2⟩:=aB.1 he;obtain⟨h3,h4⟩:=bM.1 h2;obtain rfl:=ax.1 h4;simp only[aq,dp,ba]at h1 h3;obtain⟨rfl,ZR⟩:=h1;obtain⟨q1,q2,q3⟩:=Hy ZR;obtain⟨cs,hV,hO⟩:=hx.eL rfl;have beh:a.eval x= .agg cs.toArray:=hO;simp only[V,cW]at hV;obtain⟨hlen,vY⟩:=hV;have gv:i.toNat < l.length:=by omega
  obtain⟨hp,hle⟩:=QS vY gv;have q2':P.cellsOf e=t.size:=q2;have q1':Nj P e t.agg=true:=q1;obtain⟨y',hr,hOy⟩:=xk (w:=w) q1' q2' xm hle;obtain⟨j,hj,_⟩:=yR q1';rw[<-aa2 gv]at hp;refine fin y' ?_ (VS.of (by simpa only[V]using hp) hOy)
  rw[beh,hy];have tc:=run_sizeOf hj w;rw[<-mQ hj,q2']at tc;simp[Instr.index,asIntOf,run_underlying hT,h3,tc,hr]
 ·rename_i st hl hT;rw[hl]at hx;obtain⟨h3,h4⟩:=bM.1 he;obtain rfl:=ax.1 h4;simp only[ba]at h3;have e1:=I4 hx;have gv:i.toNat < st.data.toList.length:=by
   have:st.size=st.data.toList.length:=by rw[cH];rfl
   omega
  have baZ:st[i.toNat]? =some (st.data.toList[i.toNat]):=by
   have hlt':i.toNat < st.size:=by omega
   rw[getElem?_pos st i.toNat hlt'];rfl
  refine fin (.int .u8 ((st.data.toList.getD i.toNat 0).toNat:Int)) ?_ (lz _ _)
  rw[e1,hy];simp[Instr.index,asIntOf,run_underlying hT,h3.1,baZ,aD,bO gv]
 ·simp only[au]at he
theorem aUx{E:Env}:∀(c:aA) (vs:List Value) (i:Nat) (v:aA),VC E c vs->c.list[i]? =some v->∃y,vs[i]? =some y/\VS E v y:=by
 intro c
 induction c with
 |cons x y _ ih=>
  intro vs i v hc hi;simp only[VC]at hc;obtain⟨u,vs',cs,rfl,hV,hO,hc⟩:=hc;cases i with
  |zero=>
   simp only[aA.list,fF,ay]at hi;subst hi;exact⟨u,rfl,VS.of hV hO⟩
  |succ i=>
   simp only[aA.list,lT]at hi ⊢;exact ih vs' i v hc hi
 |_=>intro vs i v hc hi;simp[aA.list]at hi
theorem ajK(h:Inv C g β s a w){x:Operand}{i:Nat}(ho:o.op= .extract x i){v:aA}(he:(Out.opt ((s.ev x).list[i]?)).eval=some v):fy P o a w (ia C (s.put o.dst v)):=by
 have hx:=h.ev x;have he:=jW.1 he;cases hc:s.ev x with
 |cons p q=>
  rw[hc]at hx he;obtain⟨vs,hy,hVC⟩:=hx;obtain⟨y,hv,hVS⟩:=aUx _ vs i v hVC he;refine h.value hVS (dR (f:=Instr.extract (a.eval x) i) (by simp only[execOp,ho]) ?_);rw[hy];simp[Instr.extract,hv]
 |_=>rw[hc]at he;simp[aA.list]at he
theorem axZ(h:Inv C g β s a w):∀(l:List Operand),z7 (rR s l)=true->VC (s.env w g β) (rR s l) (l.map a.eval)
 |[],_=>by simp[rR,VC]
 |x::xs,hc=>by simp only[rR,z7,aq]at hc;obtain⟨cs,hV,hO⟩:=(h.ev x).eL hc.1;simp only[rR,VC,bT];exact⟨_,_,cs,rfl,hV,hO,axZ h xs hc.2⟩
theorem aeC(h:Inv C g β s a w){f:FuncId}{first caps:Array Operand}(ho:o.op= .makeFunc (.func f) first caps)(h1:first.isEmpty=true)(h2:z7 (rR s caps.toList)=true):
  fy P o a w (ia C (s.put o.dst (.fn f (rR s caps.toList)))):=by
 have hf:first= #[]:=by simpa using h1
 refine h.value (x:= .func (.func f) #[] (caps.toList.map a.eval).toArray) ⟨_,?_,rfl⟩ (dR (f:=Instr.makeFunc (.func f) (first.map a.eval) (caps.map a.eval)) (by simp only[execOp,ho]) ?_)
 ·simp only[V];exact⟨_,rfl,axZ h _ h2⟩
 ·subst hf;have:caps.map a.eval=(caps.toList.map a.eval).toArray:=by apply fZ;simp
  simp[Instr.makeFunc,this]
theorem axn(h:Inv C g β s a w){T:TypeId}{x:Operand}(ho:o.op= .sliceToArrayPointer T x){s':AS}(he:(N0 P s o.dst T (s.ev x)).eval=some s'):fy P o a w (ia C s'):=by
 have hx:=h.ev x;unfold N0 at he;split at he
 ·rename_i n e hT;split at he
  ·rename_i t ht;obtain⟨h1,h2⟩:=aB.1 he;obtain⟨l,h3,h4⟩:=av.1 h2;obtain⟨h5,h6⟩:=bM.1 h4;obtain rfl:=ax.1 h6;simp only[aq,cr,dp,gf,ba]at h1 h5;obtain⟨⟨hz,hn⟩,aV3⟩:=h1;obtain⟨g1,i1,e1,t1,cs,hR,hO⟩:=A7 h hx h3;simp only[cW]at hR;obtain⟨ad,cap,vs,rfl,aGn,qu,rY,vY⟩:=hR;have hO': [Value.slice ad (ag l) cap]=[a.eval x]:=hO;have hy:a.eval x= .slice ad (ag l) cap:=by simpa using hO'.symm
   have hlen:=bz.length (λc x hx=>cW.size hx) vY;have h0:0 < vs.length:=by rw[hlen];exact Nat.mul_pos (by omega) (by omega)
   obtain⟨bb,off,e2,_⟩:=rY 0 vs[0] (by simp[h0]);subst e2;refine .inl ⟨.pointer (some ⟨bb,off,none⟩),w,?_,g1,β,i1.put o.dst ⟨_,?_,rfl⟩⟩
   ·refine dR (f:=Instr.arrayAt T (a.eval x)) (by simp only[execOp,ho]) ?_
    rw[hy];have:¬ag l < n:=by omega
    simp[Instr.arrayAt,run_underlying hT,this]
   ·simp only[V];refine⟨bb,off,vs.take (n*t.size),rfl,λj u hj=> ?_,?_⟩
    ·rw[cZ]at hj;split at hj
     ·exact rY j u hj
     ·cases hj
    ·simp only[cW];exact⟨by simp;omega,bz.take (λ_ _ hx=>hx.size) n vY⟩
  ·simp only[au]at he
 ·simp only[au]at he
end
end Go.Ab
namespace Go.Ab
theorem aai{α:Type}{f:α->α->Bool}(hf:∀x y,f x y=true->x=y):∀ {xs ys:List α},lP f xs ys=true->xs=ys
 |[],[],_=>rfl
 |x::xs,y::ys,h=>by simp only[lP,aq]at h;rw[hf _ _ h.1,aai hf h.2]
 |[],_::_,h=>by simp[lP]at h
 |_::_,[],h=>by simp[lP]at h
theorem beq_eq:∀(t:Ty) (x y:t.den),t.comp=true->t.beq x y=true->x=y
 | .int _,x,y,_,h=>by simpa[Ty.beq]using h
 | .bool,x,y,_,h=>by simpa[Ty.beq]using h
 | .str,x,y,_,h=>by
  have h:(x:ByteArray).toList=(y:ByteArray).toList:=by simpa[Ty.beq]using h
  rw[Go.ByteArray.toList_eq,Go.ByteArray.toList_eq]at h;exact ByteArray.ext (Array.toList_inj.1 h)
 | .slice _,_,_,h,_=>by simp[Ty.comp]at h
 | .unit,_,_,_,_=>rfl
 | .pair a b,x,y,hc,h=>by simp only[Ty.comp,aq]at hc;simp only[Ty.beq,aq]at h;exact Prod.ext (beq_eq a _ _ hc.1 h.1) (beq_eq b _ _ hc.2 h.2)
 | .arr _ t,x,y,hc,h=>aai (λx y=>beq_eq t x y hc) h
def Plain(c:Value):Prop:=∀n,Instr.sameBits n c c=true
theorem cW.plain{E:Env}:∀ {t:Ty} {cs:List Value} {x:t.den},t.comp=true->cW E t cs x->∀c∈cs,Plain c
 | .int _,_,_,_,h,c,hc,n=>by simp only[cW]at h;rw[h,bn]at hc;subst hc;cases n <;> simp[Instr.sameBits]
 | .bool,_,_,_,h,c,hc,n=>by simp only[cW]at h;rw[h,bn]at hc;subst hc;cases n <;> simp[Instr.sameBits]
 | .str,_,_,_,h,c,hc,n=>by simp only[cW]at h;rw[h,bn]at hc;subst hc;cases n <;> exact(Go.MapKept.bytes_beq _ _).2 rfl
 | .slice _,_,_,hc,_,_,_,_=>by simp[Ty.comp]at hc
 | .unit,_,_,_,h,c,hc,_=>by simp only[cW]at h;rw[h]at hc;cases hc
 | .pair a b,_,_,hp,h,c,hc,n=>by
  simp only[Ty.comp,aq]at hp;simp only[cW]at h;obtain⟨ca,cb,rfl,ha,hb⟩:=h;rcases bD.1 hc with hc | hc
  ·exact cW.plain hp.1 ha c hc n
  ·exact cW.plain hp.2 hb c hc n
 | .arr _ t,_,_,hp,h,c,hc,n=>by simp only[cW]at h;exact bz.all (p:=Plain) (λc x hx v hv=>cW.plain (t:=t) hp hx v hv) h.2 c hc n
theorem cW.aVe{E:Env}:∀ {t:Ty} {cs cs':List Value} {x:t.den},t.comp=true->cW E t cs x->cW E t cs' x->cs=cs'
 | .int _,_,_,_,_,h,h'=>by simp only[cW]at h h';rw[h,h']
 | .bool,_,_,_,_,h,h'=>by simp only[cW]at h h';rw[h,h']
 | .str,_,_,_,_,h,h'=>by simp only[cW]at h h';rw[h,h']
 | .slice _,_,_,_,hc,_,_=>by simp[Ty.comp]at hc
 | .unit,_,_,_,_,h,h'=>by simp only[cW]at h h';rw[h,h']
 | .pair a b,_,_,_,hp,h,h'=>by simp only[Ty.comp,aq]at hp;simp only[cW]at h h';obtain⟨ca,cb,rfl,ha,hb⟩:=h;obtain⟨ca',cb',rfl,ha',hb'⟩:=h';rw[cW.aVe hp.1 ha ha',cW.aVe hp.2 hb hb']
 | .arr _ t,cs,cs',x,hp,h,h'=>by
  simp only[cW]at h h';have key:∀(l:List t.den) (cs cs':List Value),bz (cW E t) cs l->bz (cW E t) cs' l->cs=cs':=by
   intro l
   induction l with
   |nil=>intro cs cs' h h';have h:cs=[]:=h;have h':cs'=[]:=h';rw[h,h']
   |cons x l ih=>
    intro cs cs' h h';obtain⟨c,r,rfl,hx,hr⟩:=h;obtain⟨c',r',rfl,hx',hr'⟩:=h';rw[cW.aVe (t:=t) hp hx hx',ih _ _ hr hr']
  exact key _ _ _ h.2 h'.2
theorem Dg.aVe{E:Env}{t:Ty}{v v':Value}{x:t.den}(hc:t.comp=true)(h:Dg E t v x)(h':Dg E t v' x):v=v':=by
 obtain⟨cs,h1,h2⟩:=h;obtain⟨cs',h1',h2'⟩:=h';have e:=cW.aVe hc h1 h1';subst e;unfold fH at h2 h2';cases ha:t.agg with
 |true=>rw[ha]at h2 h2';rw[h2,h2']
 |false=>
  rw[ha]at h2 h2';have h2:cs=[v]:=h2;have h2':cs=[v']:=h2';rw[h2]at h2';simpa using h2'
theorem Dg.same{E:Env}{t:Ty}{v:Value}{x:t.den}(hc:t.comp=true)(h:Dg E t v x):Instr.sameBits 10000 v v=true:=by
 obtain⟨cs,h1,h2⟩:=h;have hp:=cW.plain hc h1;unfold fH at h2;cases ha:t.agg with
 |true=>
  rw[ha]at h2;have h2:v= .agg cs.toArray:=h2;subst h2;simp only[Instr.sameBits,beq_self_eq_true,bN,dd];intro p hp';obtain⟨a,b⟩:=p;have:∀(l:List Value),(a,b)∈l.zip l->a∈l/\a=b:=by
   intro l
   induction l with
   |nil=>intro h;simp at h
   |cons y l ih=>
    intro h;simp only[List.zip_cons_cons,cj,cv]at h;rcases h with⟨rfl,rfl⟩ | h
    ·exact⟨aN,rfl⟩
    ·exact⟨aI _ (ih h).1,(ih h).2⟩
  obtain⟨hm,rfl⟩:=this _ hp';exact hp a (by simpa using hm) _
 |false=>
  rw[ha]at h2;have h2:cs=[v]:=h2;subst h2;exact hp v (by simp) _
theorem aEV{P:Program}{w:World}{E:Env}{t:Ty}{v:Value}{x:t.den}(hc:t.comp=true)(h:Dg E t v x):(Instr.keyThatStays v v).run P w= .ok v w:=by unfold Instr.keyThatStays;rw[if_pos (h.same hc)];rfl
section
variable {P:Program} {w:World} {E:Env}
theorem Ar:∀(n:Nat) (T:TypeId) (t:Ty),sE P n T t=true->t.comp=true
 | 0,T,t,h=>by simp[sE]at h
 |n+1,T,t,h=>by
  simp only[sE]at h;split at h
  ·rfl
  ·rfl
  ·rfl
  ·rename_i m e m' t' hT;simp only[aq]at h;exact Ar n e t' h.2
  ·rename_i t0 _ _ fs hT;simp only[aq]at h;have key:∀(fl:List Field) (t:Ty) (off:Nat),M3 P (sE P n) fl t off=true->t.comp=true:=by
    intro fl
    induction fl with
    |nil=>intro t off hc;cases t <;> first | rfl | (simp[M3]at hc;done)
    |cons f fl ih=>
     intro t off hc;cases t <;> first | (simp[M3]at hc;done) | skip
     rename_i ta tb;simp only[M3,aq]at hc;simp only[Ty.comp,aq];exact⟨Ar n _ _ hc.1.2,ih tb _ hc.2⟩
   exact key _ _ _ h.2
  ·cases h
theorem oC(em:Bool):∀(n:Nat) (T:TypeId) (t:Ty),sE P n T t=true->∀(d:Nat),n<=d->∀(v:Value) (x:t.den),Dg E t v x->(Instr.checkKey em d T v).run P w= .ok () w
 | 0,T,t,h,_,_,_,_,_=>by simp[sE]at h
 |n+1,T,t,h,0,hd,_,_,_=>by omega
 |n+1,T,t,h,d+1,hd,v,x,⟨cs,hx,hv⟩=>by
  simp only[sE]at h;split at h
  ·rename_i hT;simp only[cW]at hx;have e1:cs=[v]:=hv;rw[hx]at e1;simp only[cX,ix]at e1;subst e1;simp[Instr.checkKey,run_underlying hT]
  ·rename_i hT;simp only[cW]at hx;have e1:cs=[v]:=hv;rw[hx]at e1;simp only[cX,ix]at e1;subst e1;simp[Instr.checkKey,run_underlying hT]
  ·rename_i hT;simp only[cW]at hx;have e1:cs=[v]:=hv;rw[hx]at e1;simp only[cX,ix]at e1;subst e1;simp[Instr.checkKey,run_underlying hT]
  ·rename_i m e m' t' hT;simp only[aq,dp]at h;obtain⟨⟨⟨⟨rfl,aV3⟩,tc⟩,Oh⟩,vY⟩:=h;simp only[cW]at hx;obtain⟨bba,baW⟩:=hx;have e1:v= .agg cs.toArray:=hv;subst e1;obtain⟨i,hi,aoP⟩:=yR Oh;have hsz':=tc;rw[mQ hi]at hsz';simp only[Instr.checkKey,Sem.run_bind,run_underlying hT,Result.andThen_ok];simp only[Std.Legacy.Range.forIn_eq_forIn_range'];have hm:([:m]:Std.Legacy.Range).size=m:=by simp[Std.Legacy.Range.size]
   rw[hm];have asY:∀c z,cW E t' c z->c.length=t'.size:=λc z hz=>hz.size
   have bx:t'.agg=false->t'.size=1:=xm
   have key:∀(k:Nat) (x:List t'.den) (j:Nat),x.length=k->bz (cW E t') (cs.drop (j*t'.size)) x->
     (forIn (List.range' j k) () λi __s=>(do
      let __do_lift <-sizeOf e
      let __do_lift <-part e cs.toArray (i*__do_lift)
      Instr.checkKey em d e __do_lift
      pure (ForInStep.yield ()):Sem (ForInStep Unit))).run P w= .ok () w:=by
    intro k
    induction k with
    |zero=>intro x j _ _;rfl
    |succ k ih=>
     intro x j hx hcx';cases x with
     |nil=>simp at hx
     |cons x0 xs=>
      have gx:=bz.get asY hcx' 0 (by simp);simp only[mK,aF,List.getElem_cons_zero]at gx;have lenx:((cs.drop (j*t'.size)).take t'.size).length=t'.size:=gx.size;have Vb:t'.size≠0:=by simpa using aV3
      have ba6:j*t'.size+t'.size<=cs.length:=by simp only[bq,di]at lenx;omega
      obtain⟨ux,h1,o1⟩:=xk (w:=w) Oh tc bx (cs:=cs) (off:=j*t'.size) ba6;have h3:=oC em n e t' vY d (by omega) ux x0 ⟨_,gx,o1⟩;have nx:bz (cW E t') (cs.drop ((j+1)*t'.size)) xs:=by have:=bz.drop asY 1 hcx';rw[fI]at this;simpa[eg]using this
      have:=ih xs (j+1) (by simpa using hx) nx;rw[List.range'_succ,List.forIn_cons];simp only[Sem.run_bind,run_sizeOf hi,hsz',h1,h3,Result.andThen_ok,Sem.run_pure];exact this
   exact(bl (λr:Result Unit=>r.andThen λ_ w'=>Sem.run P (pure ()) w') (key m x 0 bba (by simpa using baW))).trans rfl
  ·rename_i t0 _ _ fs hT;simp only[aq,cr]at h;obtain⟨ml,aVH⟩:=h;have Oh:t0.agg=true:=by cases hl:fs.toList <;> rw[hl]at aVH <;> cases t0 <;> first | rfl | (simp[M3]at aVH;done)
   rw[Oh]at hv;have e1:v= .agg cs.toArray:=hv;subst e1
   have key:∀(fl:List Field) (t:Ty) (off:Nat),M3 P (sE P n) fl t off=true->∀(x:t.den),cW E t (cs.drop off) x->
     (forIn fl () λf __s=>(do
      if f.name≠ "_" then
       let __do_lift <-part f.type cs.toArray f.offset
       Instr.checkKey em d f.type __do_lift
       pure (ForInStep.yield ())
      else pure (ForInStep.yield ()):Sem (ForInStep Unit))).run P w= .ok () w:=by
    intro fl
    induction fl with
    |nil=>intro t off _ x _;rfl
    |cons f fl ih=>
     intro t off hc x hx;cases t <;> first | (simp[M3]at hc;done) | skip
     rename_i ta tb;simp only[M3,aq,cr,dp,gf]at hc;obtain⟨⟨⟨⟨⟨⟨bbg,aQT⟩,hz⟩,tc⟩,Oh⟩,vY⟩,aJO⟩:=hc;simp only[cW]at hx;obtain⟨xa,xb,ex,aZe,bbF⟩:=hx;have bx:ta.agg=false->ta.size=1:=xm;have lx:xa.length=ta.size:=aZe.size;have sx1:(cs.drop off).take ta.size=xa:=by rw[ex];exact ky lx
     have sx2:cs.drop (off+ta.size)=xb:=by rw[<-fI,ex];exact ku lx
     have sx3:off+ta.size<=cs.length:=by have:=bl ag ex;simp only[di,ai]at this;omega
     obtain⟨ux,h1,o1⟩:=xk (w:=w) Oh tc bx (cs:=cs) (off:=off) sx3;rw[sx1]at o1;have h3:=oC em n f.type ta vY d (by omega) ux x.1 ⟨_,aZe,o1⟩;have h4:=ih tb (off+ta.size) aJO x.2 (by rw[sx2];exact bbF);rw[List.forIn_cons];simp only[ne_eq,bbg,not_false_eq_true,bG,Sem.run_bind,aQT,h1,h3,Result.andThen_ok,Sem.run_pure];exact h4
   have:=key fs.toList t0 0 aVH x (by simpa using hx);simp only[Instr.checkKey,Sem.run_bind,run_underlying hT,Result.andThen_ok,Array.forIn_toList]at this ⊢;exact(bl (λr:Result Unit=>r.andThen λ_ w'=>Sem.run P (pure ()) w') this).trans rfl
  ·cases h
theorem Oz{K:TypeId}{kt vt:Ty}(hK:sE P depth K kt=true){v:Value}{x:kt.den}(hx:Dg E kt v x):∀(es:List MapEntry) (l:List (kt.den×vt.den)) (i:Nat),Alike (Ec E kt vt) es l->
  ∃r,(Instr.findAsking K v es i).run P w= .ok r w/\match r with | none=>iA kt x l=none | some (j,u)=>∃n e,iA kt x l=some n/\j=i+n/\es[n]? =some e/\u=e.val
 |[],[],i,_=>⟨none,by simp[Instr.findAsking],rfl⟩
 |e::es,p::l,i,⟨he,hr⟩=>by
  have hx':=hx;obtain⟨c1,r1,o1⟩:=hx';obtain⟨c2,r2,o2⟩:=he.1;have heq:(Op.equal K v e.key).run P w= .ok (kt.beq x p.1) w:=vX E depth K kt hK 10000 (by decide) c1 c2 x p.1 v e.key r1 r2 o1 o2;cases hb:kt.beq x p.1 with
  |true=>
   rw[hb]at heq;refine⟨some (i,e.val),by simp[Instr.findAsking,heq],0,e,by simp[iA,hb],rfl,rfl,rfl⟩
  |false=>
   rw[hb]at heq;obtain⟨r,h1,h2⟩:=Oz hK hx es l (i+1) hr;refine⟨r,by simp[Instr.findAsking,heq,h1],?_⟩;cases r with
   |none=>simp only at h2 ⊢;simp[iA,hb,h2]
   |some u=>
    obtain⟨j,u⟩:=u;obtain⟨n,e',g1,g2,g3,g4⟩:=h2;exact⟨n+1,e',by simp[iA,hb,g1],by omega,by simpa using g3,g4⟩
 |[],_::_,_,h=>h.elim
 |_::_,[],_,h=>h.elim
theorem ahn{d:TypeDesc}{kt vt:Ty}{v:Value}{x:kt.den}(hd:∀u y,Dg E kt u y->Instr.sameNow d v u=some (kt.beq x y)):∀(es:List MapEntry) (l:List (kt.den×vt.den)) (i:Nat),Alike (Ec E kt vt) es l->
  ∃r,Instr.findNow d v es i=some r/\match r with | none=>iA kt x l=none | some (j,u)=>∃n e,iA kt x l=some n/\j=i+n/\es[n]? =some e/\u=e.val
 |[],[],i,_=>⟨none,rfl,rfl⟩
 |e::es,p::l,i,⟨he,hr⟩=>by
  have h0:=hd e.key p.1 he.1;cases hb:kt.beq x p.1 with
  |true=>
   rw[hb]at h0;exact⟨some (i,e.val),by simp[Instr.findNow,h0],0,e,by simp[iA,hb],rfl,rfl,rfl⟩
  |false=>
   rw[hb]at h0;obtain⟨r,h1,h2⟩:=ahn hd es l (i+1) hr;refine⟨r,by simp[Instr.findNow,h0,h1],?_⟩;cases r with
   |none=>simp only at h2 ⊢;simp[iA,hb,h2]
   |some u=>
    obtain⟨j,u⟩:=u;obtain⟨n,e',g1,g2,g3,g4⟩:=h2;exact⟨n+1,e',by simp[iA,hb,g1],by omega,by simpa using g3,g4⟩
 |[],_::_,_,h=>h.elim
 |_::_,[],_,h=>h.elim
theorem M6{K:TypeId}{kt vt:Ty}(hK:sE P depth K kt=true){v:Value}{x:kt.den}(hx:Dg E kt v x){es:List MapEntry}{l:List (kt.den×vt.den)}(h:Alike (Ec E kt vt) es l):
  ∃r,(Instr.findKey K v es).run P w= .ok r w/\match r with | none=>iA kt x l=none | some (j,u)=>∃e,iA kt x l=some j/\es[j]? =some e/\u=e.val:=by
 have fin:∀r:Option (Nat×Value),(match r with | none=>iA kt x l=none | some (j,u)=>∃n e,iA kt x l=some n/\j=0+n/\es[n]? =some e/\u=e.val)->match r with | none=>iA kt x l=none | some (j,u)=>∃e,iA kt x l=some j/\es[j]? =some e/\u=e.val:=by
  intro r hr;cases r with
  |none=>exact hr
  |some u=>
   obtain⟨j,u⟩:=u;obtain⟨n,e,g1,g2,g3,g4⟩:=hr;obtain rfl:j=n:=by omega
   exact⟨e,g1,g3,g4⟩
 have scalar:∀d,P.underlying K=some d->(∀u y,Dg E kt u y->Instr.sameNow d v u=some (kt.beq x y))->∃r,(Instr.findKey K v es).run P w= .ok r w/\match r with | none=>iA kt x l=none | some (j,u)=>∃e,iA kt x l=some j/\es[j]? =some e/\u=e.val:=by intro d hd hs;obtain⟨r,h1,h2⟩:=ahn hs es l 0 h;exact⟨r,by simp[Instr.findKey,run_underlying hd,h1],fin r h2⟩
 have agg:∀d,P.underlying K=some d->(∀u y,Dg E kt u y->Instr.sameNow d v u=none)->∃r,(Instr.findKey K v es).run P w= .ok r w/\match r with | none=>iA kt x l=none | some (j,u)=>∃e,iA kt x l=some j/\es[j]? =some e/\u=e.val:=by
  intro d hd hs;cases es with
  |nil=>
   cases l with
   |nil=>exact⟨none,by simp[Instr.findKey,run_underlying hd,Instr.findNow],rfl⟩
   |cons _ _=>exact h.elim
  |cons e es=>
   cases l with
   |nil=>exact h.elim
   |cons p l=>
    have hn:Instr.findNow d v (e::es) 0=none:=by simp[Instr.findNow,hs e.key p.1 h.1.1]
    obtain⟨r,h1,h2⟩:=Oz (w:=w) (vt:=vt) hK hx (e::es) (p::l) 0 h;exact⟨r,by simp[Instr.findKey,run_underlying hd,hn,h1],fin r h2⟩
 have hK0:=hK;unfold depth at hK0;simp only[sE]at hK0;obtain⟨cx,rx,ox⟩:=hx;split at hK0
 ·rename_i k k' hT;refine scalar _ hT λu y ⟨cy,ry,oy⟩=> ?_
  simp only[cW]at rx ry;have e1:cx=[v]:=ox;have e2:cy=[u]:=oy;rw[rx]at e1;rw[ry]at e2;simp only[cX,ix]at e1 e2;subst e1 e2;simp[Instr.sameNow,Ty.beq]
 ·rename_i hT;refine scalar _ hT λu y ⟨cy,ry,oy⟩=> ?_
  simp only[cW]at rx ry;have e1:cx=[v]:=ox;have e2:cy=[u]:=oy;rw[rx]at e1;rw[ry]at e2;simp only[cX,ix]at e1 e2;subst e1 e2;simp[Instr.sameNow,Ty.beq]
 ·rename_i hT;refine scalar _ hT λu y ⟨cy,ry,oy⟩=> ?_
  simp only[cW]at rx ry;have e1:cx=[v]:=ox;have e2:cy=[u]:=oy;rw[rx]at e1;rw[ry]at e2;simp only[cX,ix]at e1 e2;subst e1 e2;have hs:∀a b:ByteArray,(a==b)=(a.toList==b.toList):=λa b=>by
   by_cases Ki:a=b
   ·subst Ki;rw[(Go.MapKept.bytes_beq a a).2 rfl];simp
   ·have h1:(a==b)=false:=by
     cases h:(a==b) with
     |false=>rfl
     |true=>exact absurd ((Go.MapKept.bytes_beq a b).1 h) Ki
    have h2:(a.toList==b.toList)=false:=by
     cases h:(a.toList==b.toList) with
     |false=>rfl
     |true=>exact absurd (beq_eq .str a b rfl h) Ki
    rw[h1,h2]
  simp[Instr.sameNow,Ty.beq,hs]
 ·rename_i m e m' t' hT;exact agg _ hT λu y _=>by simp[Instr.sameNow]
 ·rename_i t0 _ _ fs hT;exact agg _ hT λu y _=>by simp[Instr.sameNow]
 ·cases hK0
end
section
variable {α β:Type} {R:α->β->Prop}
theorem Alike.get:∀ {xs:List α} {ys:List β} {i:Nat} {x:α},Alike R xs ys->xs[i]? =some x->∃y,ys[i]? =some y/\R x y
 |[],_,_,_,_,h=>by simp at h
 |_::_,[],_,_,h,_=>h.elim
 |x::xs,y::ys,0,z,⟨h1,_⟩,h=>by simp at h;subst h;exact⟨y,rfl,h1⟩
 |x::xs,y::ys,i+1,z,⟨_,h2⟩,h=>by simp at h;simpa using Alike.get h2 h
theorem Alike.set{x:α}{y:β}(hx:R x y):∀ {xs:List α} {ys:List β} (i:Nat),Alike R xs ys->Alike R (xs.set i x) (ys.set i y)
 |[],[],_,_=>trivial
 |[],_::_,_,h=>h.elim
 |_::_,[],_,h=>h.elim
 |_::_,_::_,0,⟨_,h2⟩=>⟨hx,h2⟩
 |_::_,_::_,i+1,⟨h1,h2⟩=>⟨h1,Alike.set hx i h2⟩
theorem Alike.push{x:α}{y:β}(hx:R x y):∀ {xs:List α} {ys:List β},Alike R xs ys->Alike R (xs++ [x]) (ys++ [y])
 |[],[],_=>⟨hx,trivial⟩
 |[],_::_,h=>h.elim
 |_::_,[],h=>h.elim
 |_::_,_::_,⟨h1,h2⟩=>⟨h1,Alike.push hx h2⟩
theorem Alike.erase:∀ {xs:List α} {ys:List β} (i:Nat),Alike R xs ys->Alike R (xs.eraseIdx i) (ys.eraseIdx i)
 |[],[],_,_=>by simp[Alike]
 |[],_::_,_,h=>h.elim
 |_::_,[],_,h=>h.elim
 |_::_,_::_,0,⟨_,h2⟩=>h2
 |_::_,_::_,i+1,⟨h1,h2⟩=>⟨h1,Alike.erase i h2⟩
end
theorem P0{α:Type}{f:α->α->Bool}(hf:∀x,f x x=true):∀xs:List α,lP f xs xs=true
 |[]=>rfl
 |x::xs=>by simp[lP,hf x,P0 hf xs]
theorem beq_refl:∀(t:Ty) (x:t.den),t.comp=true->t.beq x x=true
 | .int _,x,_=>by simp[Ty.beq]
 | .bool,x,_=>by simp[Ty.beq]
 | .str,x,_=>by simp[Ty.beq]
 | .slice _,_,h=>by simp[Ty.comp]at h
 | .gM _,_,h | .tR _,_,h=>by simp[Ty.comp]at h
 | .unit,_,_=>rfl
 | .pair a b,x,h=>by simp only[Ty.comp,aq]at h;simp only[Ty.beq,beq_refl a _ h.1,beq_refl b _ h.2,vK]
 | .arr _ t,x,h=>by simp only[Ty.comp]at h;exact P0 (λy=>beq_refl t y h) x
section
variable {β:Type} {kt:Ty}
theorem sN{x:kt.den}:bZ kt x ([]:List (kt.den×β))=none:=rfl
theorem fB{x:kt.den}{p:kt.den×β}{l:List (kt.den×β)}:bZ kt x (p::l)=if kt.beq x p.1=true then some p.2 else bZ kt x l:=by
 unfold bZ;cases h:kt.beq x p.1 with
 |true=>simp[iA,h]
 |false=>
  simp only[iA,h];cases iA kt x l <;> simp
theorem aDm{x:kt.den}{v:β}:eJ kt x v []=[(x,v)]:=rfl
theorem sj{x:kt.den}{v:β}{p:kt.den×β}{l:List (kt.den×β)}:eJ kt x v (p::l)=if kt.beq x p.1=true then(x,v)::l else p::eJ kt x v l:=by
 unfold eJ;cases h:kt.beq x p.1 with
 |true=>simp[iA,h]
 |false=>
  simp only[iA,h];cases iA kt x l <;> simp
theorem aDl{x:kt.den}:fR kt x ([]:List (kt.den×β))=[]:=rfl
theorem vg{x:kt.den}{p:kt.den×β}{l:List (kt.den×β)}:fR kt x (p::l)=if kt.beq x p.1=true then l else p::fR kt x l:=by
 unfold fR;cases h:kt.beq x p.1 with
 |true=>simp[iA,h]
 |false=>
  simp only[iA,h];cases iA kt x l <;> simp
theorem JZ{x:kt.den}{v:β}:∀l:List (kt.den×β),(eJ kt x v l).Perm ((x,v)::fR kt x l)
 |[]=>gU _
 |p::l=>by
  rw[sj,vg];split
  ·exact gU _
  ·exact((JZ l).cons p).trans (List.Perm.swap _ _ _)
theorem ud(hc:kt.comp=true){x:kt.den}:∀ {l:List (kt.den×β)},(l.map (·.1)).Nodup->fR kt x l=l.filter λp=> !kt.beq x p.1
 |[],_=>rfl
 |p::l,hn=>by
  rw[bT,cY]at hn;rw[vg,List.filter_cons];by_cases h:kt.beq x p.1=true
  ·rw[if_pos h];simp only[h,ct,bE,bp];have hx:=beq_eq kt _ _ hc h;exact(jg.2 λq hq=>by
    simp only[cr];rw[Bool.eq_false_iff];intro hb;have:=beq_eq kt _ _ hc hb;exact hn.1 (by rw[<-hx,this];exact c9.2 ⟨q,hq,rfl⟩)).symm
  ·have h':kt.beq x p.1=false:=by simpa using h
   rw[if_neg h];simp only[h',eT,bG];rw[ud hc hn.2]
theorem l9(hc:kt.comp=true){x:kt.den}{v:β}:∀ {l:List (kt.den×β)},(l.map (·.1)).Nodup->(bZ kt x l=some v↔(x,v)∈l)
 |[],_=>by simp[sN]
 |p::l,hn=>by
  rw[bT,cY]at hn;rw[fB,cj];by_cases h:kt.beq x p.1=true
  ·rw[if_pos h];have hx:=beq_eq kt _ _ hc h;constructor
   ·intro e;left;rw[hx,<-bk e]
   ·rintro(e | e)
    ·rw[<-e]
    ·exact absurd (c9.2 ⟨_,e,rfl⟩) (by rw[<-hx]at hn;exact hn.1)
  ·rw[if_neg h,l9 hc hn.2];constructor
   ·exact .inr
   ·rintro(e | e)
    ·exact absurd (by rw[<-e];exact beq_refl kt x hc) h
    ·exact e
theorem aaA(hc:kt.comp=true){x:kt.den}{l l':List (kt.den×β)}(hn:(l.map (·.1)).Nodup)(hp:l'.Perm l):bZ kt x l'=bZ kt x l:=by apply Option.ext;intro v;rw[l9 hc ((hp.map _).nodup_iff.2 hn),l9 hc hn,hp.mem_iff]
theorem aaz(hc:kt.comp=true){x:kt.den}{l l':List (kt.den×β)}(hn:(l.map (·.1)).Nodup)(hp:l'.Perm l):(fR kt x l').Perm (fR kt x l):=by rw[ud hc ((hp.map _).nodup_iff.2 hn),ud hc hn];exact hp.filter _
theorem avn(hc:kt.comp=true){x:kt.den}{v:β}{l l':List (kt.den×β)}(hn:(l.map (·.1)).Nodup)(hp:l'.Perm l):(eJ kt x v l').Perm (eJ kt x v l):=
 (JZ l').trans (((aaz hc hn hp).cons _).trans (JZ l).symm)
theorem BY(hc:kt.comp=true){x:kt.den}{l:List (kt.den×β)}(hn:(l.map (·.1)).Nodup):((fR kt x l).map (·.1)).Nodup:=by rw[ud hc hn];exact hn.sublist (List.filter_sublist.map _)
theorem HX(hc:kt.comp=true){x:kt.den}{v:β}{l:List (kt.den×β)}(hn:(l.map (·.1)).Nodup):((eJ kt x v l).map (·.1)).Nodup:=by rw[((JZ l).map _).nodup_iff,bT,cY];refine⟨λh=> ?_,BY hc hn⟩;obtain⟨p,hp,he⟩:=c9.1 h;rw[ud hc hn,nq]at hp;have:=hp.2;have he:p.1=x:=he;rw[he,beq_refl kt x hc]at this;cases this
end
theorem NO{E:Env}:∀(v:aA) (t:Ty) (x:t.den) (cs:List Value),V E v cs->(qD t v).eval=some x->cW E t cs x/\v.agg=t.agg/\v.eL=true
 | .d t' x',t,x,cs,hv,h=>by
  have h':(Out.opt (u9 t' t x')).eval=some x:=by cases t <;> simpa only[qD]using h
  obtain⟨rfl,h'⟩:=ju (jW.1 h');simp only at h';subst h';simp only[V]at hv;exact⟨hv,rfl,rfl⟩
 | .cV,.slice t,x,cs,hv,h=>by simp only[qD,ax]at h;subst h;simp only[V]at hv;simp only[cW];exact⟨⟨none,0,[],by simpa using hv,by simp,by simp,λi v hh=>by simp at hh,rfl⟩,rfl,rfl⟩
 | .pr a b,.pair ta tb,x,cs,hv,h=>by simp only[qD]at h;obtain⟨x1,h1,h2⟩:=av.1 h;obtain⟨x2,h3,h4⟩:=av.1 h2;obtain rfl:=ax.1 h4;simp only[V]at hv;obtain⟨ca,cb,rfl,ha,hb⟩:=hv;simp only[cW];exact⟨⟨ca,cb,rfl,(NO a ta x1 ca ha h1).1,(NO b tb x2 cb hb h3).1⟩,rfl,rfl⟩
 | .cV,.int _,_,_,_,h | .cV,.bool,_,_,_,h | .cV,.str,_,_,_,h | .cV,.unit,_,_,_,h | .cV,.pair _ _,_,_,_,h | .cV,.arr _ _,_,_,_,h=>by simp only[qD,au]at h
 | .pr _ _,.int _,_,_,_,h | .pr _ _,.bool,_,_,_,h | .pr _ _,.str,_,_,_,h | .pr _ _,.unit,_,_,_,h | .pr _ _,.slice _,_,_,_,h | .pr _ _,.arr _ _,_,_,_,h=>by simp only[qD,au]at h
 | .undef,t,_,_,_,h | .gone,t,_,_,_,h | .qC,t,_,_,_,h | .xc,t,_,_,_,h | .yl ..,t,_,_,_,h | .CI,t,_,_,_,h | .ptr ..,t,_,_,_,h | .dL ..,t,_,_,_,h | .bu ..,t,_,_,_,h | .fn ..,t,_,_,_,h
 | .cons ..,t,_,_,_,h | .nil,t,_,_,_,h | .vec ..,t,_,_,_,h | .sb _,t,_,_,_,h | .bx ..,t,_,_,_,h | .cm ..,t,_,_,_,h | .mp ..,t,_,_,_,h | .sH ..,t,_,_,_,h | .qX ..,t,_,_,_,h=>by cases t <;> simp only[qD,au]at h
theorem aeR{v:aA}{t:Ty}{x:t.den}(h:(qD t v).eval=some x):v.eL=true:=by cases v <;> first | rfl | (cases t <;> simp only[qD,au]at h)
theorem Fe{E:Env}{v:aA}{y:Value}(hv:VS E v y){t:Ty}{x:t.den}(h:(qD t v).eval=some x):Dg E t y x:=by obtain⟨cs,h1,h2⟩:=hv.eL (aeR h);obtain⟨h3,h4,_⟩:=NO v t x cs h1 h;exact⟨cs,h3,by rw[<-h4];exact h2⟩
theorem BX{P:Program}{T K V':TypeId}{kt vt:Ty}(h:mapOf P T=some (K,V',kt,vt)):P.underlying T=some (.map K V')/\sE P depth K kt=true/\ams P V' (.d vt vt.zero)=true:=by
 unfold mapOf at h;split at h
 ·rename_i K0 V0 hT;split at h
  ·split at h
   ·rename_i hc;simp only[ay,cv]at h;obtain⟨rfl,rfl,rfl,rfl⟩:=h;rw[aq]at hc;exact⟨hT,hc.1,hc.2⟩
   ·cases h
  ·cases h
 ·cases h
theorem anu{k v k' v':Ty}{l:List (k.den×v.den)}{l':List (k'.den×v'.den)}(h:atS k v k' v' l=some l'):∃(e1:k=k') (e2:v=v'),(e1▸e2▸l)=l':=by
 unfold atS at h;split at h
 ·rename_i e;exact⟨e.1,e.2,by simpa using h⟩
 ·cases h
section
variable {P:Program} {C:Ctx} {g:Nat->lS} {β:Id->Option Pl} {s:AS} {a:Act} {w:World} {o:Oper}
theorem yY(h:Inv C g β s a w){id:Id}{ver:Nat}{kt vt:Ty}{l:List (kt.den×vt.den)}(ho:(s.uc id ver kt vt).eval=some l){y:Value}(hv:VS (s.env w g β) (.cm id ver) y):
  ∃fr pl es clock,s.bQ id=some (.obj ver fr (.mp kt vt l))/\β id=some pl/\y= .map (some pl.b)/\w.heap[pl.b]? =some (.map es clock)/\g pl.b= .own (.id id) 0/\aiA (s.env w g β) kt vt es.toList l/\oh es.toList clock/\(l.map (·.1)).Nodup:=by
 unfold AS.uc at ho;split at ho
 ·rename_i v fr k' v' l' lK;obtain⟨aVZ,baa⟩:=aB.1 ho;have aVZ:v=ver:=by simpa using aVZ
  obtain⟨rfl,rfl,rfl⟩:=anu (jW.1 baa);subst aVZ;have cM:=dX lK;obtain⟨pl,es,clock,h1,h2,h3,h4⟩:=h.bI id v fr _ cM;have hs:=hv.single rfl rfl;simp only[V]at hs;obtain⟨b,hb,_,hc⟩:=hs;obtain⟨pl',h5,h6⟩:=hc ⟨fr,_,cM⟩;have h1:β id=some pl:=h1;have h5:β id=some pl':=h5;rw[h1]at h5;obtain rfl:pl=pl':=by simpa using h5
  refine⟨fr,pl,es,clock,cM,h1,?_,h2,h3,h4.1.1,h4.2,h4.1.2⟩;have hb:y= .map (some b):=by simpa using hb
  rw[hb,h6]
 ·simp only[au]at ho
theorem akx(h:Inv C g β s a w){T:TypeId}(db:o.op= .makeMap T none){s':AS}(he:(HV P s o.dst T).eval=some s'):fy P o a w (ia C s'):=by
 unfold HV at he;split at he
 ·rename_i K V' kt vt q hm hd;obtain⟨hq,he⟩:=aB.1 he;obtain rfl:=ax.1 he;have ht:=Trans.alloc w g (.map #[] 0) (.own (.id (.new q 0)) 0);obtain⟨h1,h2⟩:=h.Sr hq (c:= .mp kt vt []) (p:=some ⟨w.heap.size,0⟩) ht (λb hb=>⟨qM w _ hb,fi _ _ _ (by omega)⟩) (λ_=>
   ⟨⟨w.heap.size,0⟩,#[],0,jO _ _ _,tt w _,fv _ _ _,⟨⟨[],trivial,gU _⟩,gm⟩,oh.nil _⟩)
  refine .inl ⟨.map (some w.heap.size),w.alloc (.map #[] 0),?_,_,_,h1.put o.dst (v:= .cm (.new q 0) 0) ⟨[.map (some w.heap.size)],?_,rfl⟩⟩
  ·refine dR (f:=Instr.makeMap T none) (by simp only[execOp,db];rfl) ?_
   simp[Instr.makeMap,run_newObj_alloc]
  ·simp only[V];exact⟨_,rfl,pS hq _ _ _ _,λ_=>⟨_,jO _ _ _,rfl⟩⟩
 ·simp only[au]at he
theorem Dg.vs{E:Env}{t:Ty}{v:Value}{x:t.den}(h:Dg E t v x):VS E (.d t x) v:=by obtain⟨cs,h1,h2⟩:=h;exact⟨cs,by simpa only[V]using h1,h2⟩
theorem apw(h:Inv C g β s a w){T:TypeId}{x i:Operand}{ok:Bool}(db:o.op= .lookup T x i ok){v:aA}(he:(EY P s T (s.ev x) (s.ev i) ok).eval=some v):fy P o a w (ia C (s.put o.dst v)):=by
 unfold EY at he;split at he
 ·rename_i K V' kt vt id ver hm hx;obtain⟨l,h1,he⟩:=av.1 he;obtain⟨k,h2,he⟩:=av.1 he;obtain rfl:=ax.1 he;obtain⟨hT,hK,hz⟩:=BX hm;have ZU:=h.ev x;rw[hx]at ZU;obtain⟨fr,pl,es,clock,g1,g2,g3,g4,g5,g6,g7,gn⟩:=yY h h1 ZU;have K7:=Ar depth K kt hK;obtain⟨l0,g6,gp⟩:=g6;rw[<-aaA K7 gn gp];clear gn h1;generalize l0=l at g6;have hk:=Fe (h.ev i) h2;have aTQ:=oC (P:=P) (w:=w) es.isEmpty depth K kt hK 10000 (by decide) _ _ hk;obtain⟨r,hf,hr⟩:=M6 (P:=P) (w:=w) hK hk g6;obtain⟨iz,zv,z1,z2,z3,z4⟩:=vJ hz (s.env w g β);have aCL:Dg (s.env w g β) vt zv vt.zero:=⟨_,by simpa only[V]using z3,z4⟩;have hzero:(zeroValue V').run P w= .ok zv w:=by simp[zeroValue,typeInfo,z1,z2]
  obtain⟨val,pT,Av⟩:∃val:Value×Bool,(Instr.lookup T (a.eval x) (a.eval i) ok).run P w= .ok (if ok then .tuple #[val.1,.bool val.2] else val.1) w/\Dg (s.env w g β) vt val.1 ((bZ kt k l).getD vt.zero)/\val.2=(bZ kt k l).isSome:=by
   cases r with
   |none=>
    simp only at hr;have hg:bZ kt k l=none:=by simp[bZ,hr]
    refine⟨(zv,false),?_,by rw[hg];exact aCL,by rw[hg];rfl⟩;simp[Instr.lookup,run_underlying hT,g3,Go.MapKept.run_getObj_map g4,aTQ,hf,hzero]
   |some u=>
    obtain⟨j,u⟩:=u;obtain⟨e,m1,m2,rfl⟩:=hr;obtain⟨p,m3,m4⟩:=g6.get m2;have hg:bZ kt k l=some p.2:=by simp[bZ,m1,m3]
    refine⟨(e.val,true),?_,by rw[hg];exact m4.2,by rw[hg];rfl⟩;simp[Instr.lookup,run_underlying hT,g3,Go.MapKept.run_getObj_map g4,aTQ,hf]
  refine h.value (x:=if ok then .tuple #[val.1,.bool val.2] else val.1) ?_ (dR (f:=Instr.lookup T (a.eval x) (a.eval i) ok) (by simp only[execOp,db]) pT)
  unfold aT9;cases ok with
  |true=>
   obtain⟨cs,c1,c2⟩:=Av.1;refine⟨[val.1,.bool val.2],rfl,?_⟩;simp only[VC];refine⟨_,_,cs,rfl,by simpa only[V]using c1,c2,_,_,[.bool val.2],rfl,?_,rfl,rfl⟩;simp only[V,cW,Av.2]
  |false=>exact Av.1.vs
 ·simp only[au]at he
theorem Inv.aM3(h:Inv C g β s a w){id:Id}{ver:Nat}{fr:Bool}{kt vt:Ty}{l l':List (kt.den×vt.den)}{pl:Pl}{es es':Array MapEntry}{clock clock':Nat}(cM:s.bQ id=some (.obj ver fr (.mp kt vt l)))(hp:β id=some pl)
  (hb:w.heap[pl.b]? =some (.map es clock)) (hg:g pl.b= .own (.id id) 0) (hr:aiA (s.env w g β) kt vt es'.toList l') (bdY:(l'.map (·.1)).Nodup) (aYB:oh es'.toList clock') (aVX:s.uB id=true):
  Inv C g β (s.bg id (.obj ver false (.mp kt vt l'))) a {w with heap:=w.heap.setIfInBounds pl.b (.map es' clock')}:=by
 have gv:pl.b < w.heap.size:=(bK.1 hb).1;have hother:∀b',b'≠pl.b->({w with heap:=w.heap.setIfInBounds pl.b (.map es' clock')}:World).heap[b']? =w.heap[b']? :=λb' gg=>by
  show(w.heap.setIfInBounds pl.b _)[b']? =_
  rw[dP,if_neg (λe=>gg e.symm)]
 have ht:Trans w {w with heap:=w.heap.setIfInBounds pl.b (.map es' clock')} g g:=by
  refine⟨rfl,rfl,⟨rfl,aw _⟩,by simp,λb' _=> ?_⟩;by_cases he:b'=pl.b
  ·subst he;rw[hg];exact⟨.inr ⟨id,0,rfl,aw _⟩,λ_ _ hh=>by omega⟩
  ·rw[hother b' he];cases WX:g b' with
   |free=>exact⟨rfl,rfl⟩
   |own o' k=>cases o' with
    |dZ=>exact⟨rfl,rfl⟩
    |id i'=>exact⟨.inr ⟨i',k,rfl,aw _⟩,λoff v _ hv=>by simpa only[World.cell?,hother b' he]using hv⟩
 have hle:cJ (s.env w g β) ((s.bg id (.obj ver false (.mp kt vt l'))).env {w with heap:=w.heap.setIfInBounds pl.b (.map es' clock')} g β):=cJ.bg cM (aw _) ht (λ_ _=>rfl) (λ_=>rfl);refine h.step (da _ _ _) ht hle (iG.bg h.bI (by rw[cM];simp) hle (λ_ _=>rfl) (λi ver fr c pl2 hi ZS agT=>⟨hother _ (h.apart hg hi ZS agT),rfl⟩) ?_ (by obtain rfl:=Js cM aVX;exact P4 cM));refine⟨pl,es',clock',hp,?_,hg,⟨hr.mono hle.mem,bdY⟩,aYB⟩;show(w.heap.setIfInBounds pl.b _)[pl.b]? =_
 rw[dP,if_pos rfl,if_pos gv]
theorem apG(h:Inv C g β s a w){T:TypeId}{m k x:Operand}(db:o.op= .mapUpdate T m k x){s':AS}(he:(E3 P s T (s.ev m) (s.ev k) (s.ev x)).eval=some s'):fy P o a w (ia C (s'.put o.dst .undef)):=by
 unfold E3 at he;split at he
 ·rename_i K V' kt vt id ver hm hx;obtain⟨l,h1,he⟩:=av.1 he;obtain⟨kx,h2,he⟩:=av.1 he;obtain⟨vx,h3,he⟩:=av.1 he;obtain⟨aVX,he⟩:=aB.1 he;obtain rfl:=ax.1 he;obtain⟨hT,hK,_⟩:=BX hm;have ZU:=h.ev m;rw[hx]at ZU;obtain⟨fr,pl,es,clock,g1,g2,g3,g4,g5,g6,g7,gn⟩:=yY h h1 ZU;obtain⟨l0,g6,gp⟩:=g6;have hk:=Fe (h.ev k) h2;have hv:=Fe (h.ev x) h3;have aTQ:=oC (P:=P) (w:=w) false depth K kt hK 10000 (by decide) _ _ hk;obtain⟨r,hf,hr⟩:=M6 (P:=P) (w:=w) hK hk g6;have K7:=Ar depth K kt hK
  have fin:∀(es':Array MapEntry) (clock':Nat),(Instr.mapUpdate T (a.eval m) (a.eval k) (a.eval x)).run P w= .ok () {w with heap:=w.heap.setIfInBounds pl.b (.map es' clock')}->Alike (Ec (s.env w g β) kt vt) es'.toList (eJ kt kx vx l0)->oh es'.toList clock'->
    fy P o a w (ia C ((s.bg id (.obj ver false (.mp kt vt (eJ kt kx vx l)))).put o.dst .undef)):=λes' clock' pT aJD aYB=>
   .inr (.inl ⟨_,agE (f:=Instr.mapUpdate T (a.eval m) (a.eval k) (a.eval x)) (by simp only[execOp,db]) pT,g,β,(h.aM3 g1 g2 g4 g5 ⟨_,aJD,avn K7 gn gp⟩ (HX K7 gn) aYB aVX).put o.dst VS.undef⟩)
  cases r with
  |none=>
   simp only at hr;refine fin (es.push {key:=a.eval k,val:=a.eval x,born:=clock}) (clock+1) ?_ ?_ (by rw[Array.toList_push];exact g7.push rfl)
   ·simp[Instr.mapUpdate,run_underlying hT,g3,Go.MapKept.run_getObj_map g4,aTQ,hf,Go.MapKept.run_setObj_map _ g4]
   ·simp only[eJ,hr,Array.toList_push];exact g6.push ⟨hk,hv⟩
  |some u=>
   obtain⟨j,u⟩:=u;obtain⟨e,m1,m2,rfl⟩:=hr;obtain⟨p,m3,m4⟩:=g6.get m2;have baR:kt.beq kx p.1=true:=by
    have:∀(l:List (kt.den×vt.den)) (j:Nat),iA kt kx l=some j->∀p,l[j]? =some p->kt.beq kx p.1=true:=by
     intro l
     induction l with
     |nil=>intro j hj;simp[iA]at hj
     |cons q l ih=>
      intro j hj p hp;simp only[iA]at hj;cases hb:kt.beq kx q.1 with
      |true=>
       rw[hb]at hj;simp only[ay]at hj;subst hj;simp at hp;subst hp;exact hb
      |false=>
       rw[hb]at hj;simp only[cU]at hj;obtain⟨j',hj',rfl⟩:=hj;exact ih j' hj' p (by simpa using hp)
    exact this l0 j m1 p m3
   have bbG:=beq_eq kt kx p.1 K7 baR;have ba7:e.key=a.eval k:=Dg.aVe K7 (bbG▸m4.1) hk;have m2':es[j]? =some e:=by simpa using m2
   refine fin (es.modify j λe=> {e with key:=a.eval k,val:=a.eval x}) clock ?_ ?_ (by rw[Array.toList_modify,Go.ChangeMaps.modify_eq_set _ _ _ _ m2];exact g7.set m2 rfl)
   ·simp[Instr.mapUpdate,run_underlying hT,g3,Go.MapKept.run_getObj_map g4,aTQ,hf,m2',ba7,aEV K7 hk,Go.MapKept.run_setObj_map _ g4]
   ·simp only[eJ,m1,Array.toList_modify];rw[Go.ChangeMaps.modify_eq_set _ _ _ _ m2];exact Alike.set (R:=Ec (s.env w g β) kt vt) ⟨hk,hv⟩ j g6
 ·simp only[au]at he
end
end Go.Ab
end
