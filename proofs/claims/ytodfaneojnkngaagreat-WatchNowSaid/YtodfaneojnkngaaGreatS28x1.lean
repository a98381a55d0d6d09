/-
  Made short by a program of mine (wip/tools/mini.py).
-/
import Derived.WalkKit
import Derived.KernelRfl
import Derived.OrdersIn
import Derived.LoopNIn
import Derived.TacticsIn
import Derived.RangeFuncCalls
import Derived.RangeFuncLeaves
import Derived.RangeFuncRecord
import Derived.MapKept
import Derived.ChangeMaps3
set_option linter.unusedVariables false
set_option linter.unusedSimpArgs false
set_option maxRecDepth 100000
set_option synthInstance.maxSize 5000
open List renaming length->ag,replicate->ab,set->fX
open BitVec renaming ofInt->bh
open Nat renaming beq->iO
open UInt8 renaming ofNat->fm
noncomputable section
namespace Go.Ab
theorem gC:type_of% @Array.ext':= @Array.ext'
theorem sO:type_of% @Array.ext_getElem?:= @Array.ext_getElem?
theorem cI:type_of% @Array.getD_eq_getD_getElem?:= @Array.getD_eq_getD_getElem?
theorem kK:type_of% @Array.getElem?_append:= @Array.getElem?_append
theorem fp:type_of% @Array.getElem?_eq_getElem:= @Array.getElem?_eq_getElem
theorem bP:type_of% @Array.getElem?_eq_some_iff:= @Array.getElem?_eq_some_iff
theorem gH:type_of% @Array.getElem?_modify:= @Array.getElem?_modify
theorem dT:type_of% @Array.getElem?_setIfInBounds:= @Array.getElem?_setIfInBounds
theorem iP:type_of% @Array.getElem?_toList:= @Array.getElem?_toList
theorem cK:type_of% @Array.length_toList:= @Array.length_toList
theorem bX:type_of% @Array.toList_append:= @Array.toList_append
theorem jj:type_of% @BitVec.ofInt_natCast:= @BitVec.ofInt_natCast
theorem sP:type_of% @BitVec.toNat_ofInt:= @BitVec.toNat_ofInt
theorem kj:type_of% @BitVec.toNat_ofNat:= @BitVec.toNat_ofNat
theorem au:type_of% @Bool.and_eq_true:= @Bool.and_eq_true
theorem wi:type_of% @Bool.and_self:= @Bool.and_self
theorem je:type_of% @Bool.eq_false_or_eq_true:= @Bool.eq_false_or_eq_true
theorem cH:type_of% @Bool.false_and:= @Bool.false_and
theorem bn:type_of% @Bool.false_eq_true:= @Bool.false_eq_true
theorem wj:type_of% @Bool.false_or:= @Bool.false_or
theorem cC:type_of% @Bool.not_eq_true':= @Bool.not_eq_true'
theorem fb:type_of% @Bool.not_false:= @Bool.not_false
theorem cm:type_of% @Bool.not_true:= @Bool.not_true
theorem gf:type_of% @Bool.or_eq_true:= @Bool.or_eq_true
theorem bw:type_of% @Bool.true_and:= @Bool.true_and
theorem ud:type_of% @Int.add_emod:= @Int.add_emod
theorem qb:type_of% @Int.dvd_refl:= @Int.dvd_refl
theorem gS:type_of% @Int.emod_emod_of_dvd:= @Int.emod_emod_of_dvd
theorem fe:type_of% @Int.emod_eq_of_lt:= @Int.emod_eq_of_lt
theorem kk:type_of% @Int.emod_lt_of_pos:= @Int.emod_lt_of_pos
theorem kT:type_of% @Int.emod_nonneg:= @Int.emod_nonneg
theorem km:type_of% @Int.fdiv_eq_ediv_of_nonneg:= @Int.fdiv_eq_ediv_of_nonneg
theorem iD:type_of% @Int.le_refl:= @Int.le_refl
theorem rq:type_of% @Int.mul_assoc:= @Int.mul_assoc
theorem qc:type_of% @Int.mul_comm:= @Int.mul_comm
theorem jD:type_of% @Int.mul_emod:= @Int.mul_emod
theorem xj:type_of% @Int.mul_one:= @Int.mul_one
theorem qd:type_of% @Int.natCast_emod:= @Int.natCast_emod
theorem kU:type_of% @Int.natCast_mul:= @Int.natCast_mul
theorem gR:type_of% @Int.natCast_nonneg:= @Int.natCast_nonneg
theorem kV:type_of% @Int.natCast_pow:= @Int.natCast_pow
theorem fO:type_of% @Int.pow_succ:= @Int.pow_succ
theorem lk:type_of% @Int.pow_zero:= @Int.pow_zero
theorem qe:type_of% @Int.sub_zero:= @Int.sub_zero
theorem ko:type_of% @Int.tdiv_eq_ediv_of_nonneg:= @Int.tdiv_eq_ediv_of_nonneg
theorem il:type_of% @Int.tmod_eq_emod_of_nonneg:= @Int.tmod_eq_emod_of_nonneg
theorem aa:type_of% @Int.toNat_natCast:= @Int.toNat_natCast
theorem aX:type_of% @Int.toNat_zero:= @Int.toNat_zero
theorem im:type_of% @List.Perm.refl:= @List.Perm.refl
theorem ff:type_of% @List.all_cons:= @List.all_cons
theorem cW:type_of% @List.all_eq_true:= @List.all_eq_true
theorem ru:type_of% @List.any_cons:= @List.any_cons
theorem js:type_of% @List.any_eq_false:= @List.any_eq_false
theorem aF:type_of% @List.append_assoc:= @List.append_assoc
theorem aZ:type_of% @List.append_nil:= @List.append_nil
theorem dh:type_of% @List.cons.injEq:= @List.cons.injEq
theorem iW:type_of% @List.cons_append:= @List.cons_append
theorem ka:type_of% @List.drop_append:= @List.drop_append
theorem fU:type_of% @List.drop_drop:= @List.drop_drop
theorem aq:type_of% @List.drop_eq_getElem_cons:= @List.drop_eq_getElem_cons
theorem kW:type_of% @List.drop_left':= @List.drop_left'
theorem aL:type_of% @List.drop_length:= @List.drop_length
theorem dZ:type_of% @List.drop_of_length_le:= @List.drop_of_length_le
theorem ue:type_of% @List.drop_take:= @List.drop_take
theorem aD:type_of% @List.drop_zero:= @List.drop_zero
theorem bE:type_of% @List.eq_nil_of_length_eq_zero:= @List.eq_nil_of_length_eq_zero
theorem ln:type_of% @List.ext_getElem?:= @List.ext_getElem?
theorem iA:type_of% @List.filter_eq_self:= @List.filter_eq_self
theorem dx:type_of% @List.flatMap_cons:= @List.flatMap_cons
theorem qf:type_of% @List.flatMap_nil:= @List.flatMap_nil
theorem jt:type_of% @List.flatten_cons:= @List.flatten_cons
theorem qg:type_of% @List.flatten_nil:= @List.flatten_nil
theorem bq:type_of% @List.foldl_cons:= @List.foldl_cons
theorem cO:type_of% @List.foldl_nil:= @List.foldl_nil
theorem rb:type_of% @List.getD_cons_succ:= @List.getD_cons_succ
theorem jz:type_of% @List.getD_cons_zero:= @List.getD_cons_zero
theorem aH:type_of% @List.getD_eq_getElem?_getD:= @List.getD_eq_getElem?_getD
theorem fq:type_of% @List.getElem?_append_left:= @List.getElem?_append_left
theorem mA:type_of% @List.getElem?_cons_succ:= @List.getElem?_cons_succ
theorem fQ:type_of% @List.getElem?_cons_zero:= @List.getElem?_cons_zero
theorem fV:type_of% @List.getElem?_drop:= @List.getElem?_drop
theorem bU:type_of% @List.getElem?_eq_getElem:= @List.getElem?_eq_getElem
theorem dG:type_of% @List.getElem?_eq_none:= @List.getElem?_eq_none
theorem dF:type_of% @List.getElem?_eq_some_iff:= @List.getElem?_eq_some_iff
theorem eh:type_of% @List.getElem?_map:= @List.getElem?_map
theorem ea:type_of% @List.getElem?_set_ne:= @List.getElem?_set_ne
theorem di:type_of% @List.getElem?_take:= @List.getElem?_take
theorem aN:type_of% @List.getElem_mem:= @List.getElem_mem
theorem ai:type_of% @List.length_append:= @List.length_append
theorem aA:type_of% @List.length_cons:= @List.length_cons
theorem dp:type_of% @List.length_drop:= @List.length_drop
theorem bV:type_of% @List.length_map:= @List.length_map
theorem ba:type_of% @List.length_nil:= @List.length_nil
theorem cg:type_of% @List.length_replicate:= @List.length_replicate
theorem rX:type_of% @List.length_set:= @List.length_set
theorem bp:type_of% @List.length_take:= @List.length_take
theorem rY:type_of% @List.map_append:= @List.map_append
theorem gD:type_of% @List.map_congr_left:= @List.map_congr_left
theorem bQ:type_of% @List.map_cons:= @List.map_cons
theorem iq:type_of% @List.map_nil:= @List.map_nil
theorem bz:type_of% @List.mem_append:= @List.mem_append
theorem bY:type_of% @List.mem_cons:= @List.mem_cons
theorem aG:type_of% @List.mem_cons_of_mem:= @List.mem_cons_of_mem
theorem aI:type_of% @List.mem_cons_self:= @List.mem_cons_self
theorem nZ:type_of% @List.mem_filter:= @List.mem_filter
theorem qh:type_of% @List.mem_flatMap:= @List.mem_flatMap
theorem kN:type_of% @List.mem_iff_getElem?:= @List.mem_iff_getElem?
theorem cT:type_of% @List.mem_map:= @List.mem_map
theorem cJ:type_of% @List.mem_of_getElem?:= @List.mem_of_getElem?
theorem fj:type_of% @List.mem_of_mem_take:= @List.mem_of_mem_take
theorem nr:type_of% @List.mem_replicate:= @List.mem_replicate
theorem bk:type_of% @List.mem_singleton:= @List.mem_singleton
theorem aT:type_of% @List.nil_append:= @List.nil_append
theorem cV:type_of% @List.nodup_cons:= @List.nodup_cons
theorem fW:type_of% @List.nodup_nil:= @List.nodup_nil
theorem gI:type_of% @List.set_getElem_self:= @List.set_getElem_self
theorem c9:type_of% @List.singleton_append:= @List.singleton_append
theorem iu:type_of% @List.size_toArray:= @List.size_toArray
theorem qi:type_of% @List.take_append:= @List.take_append
theorem dq:type_of% @List.take_append_drop:= @List.take_append_drop
theorem fk:type_of% @List.take_append_of_le_length:= @List.take_append_of_le_length
theorem kX:type_of% @List.take_left':= @List.take_left'
theorem bK:type_of% @List.take_length:= @List.take_length
theorem aY:type_of% @List.take_of_length_le:= @List.take_of_length_le
theorem iv:type_of% @List.take_succ_eq_append_getElem:= @List.take_succ_eq_append_getElem
theorem eJ:type_of% @List.take_take:= @List.take_take
theorem dH:type_of% @List.take_zero:= @List.take_zero
theorem eP:type_of% @Nat.add_assoc:= @Nat.add_assoc
theorem eE:type_of% @Nat.add_mul:= @Nat.add_mul
theorem iX:type_of% @Nat.add_sub_cancel:= @Nat.add_sub_cancel
theorem cq:type_of% @Nat.add_zero:= @Nat.add_zero
theorem eW:type_of% @Nat.eq_of_beq_eq_true:= @Nat.eq_of_beq_eq_true
theorem iY:type_of% @Nat.eq_zero_or_pos:= @Nat.eq_zero_or_pos
theorem qj:type_of% @Nat.le_add_right:= @Nat.le_add_right
theorem dI:type_of% @Nat.le_of_ble_eq_true:= @Nat.le_of_ble_eq_true
theorem ug:type_of% @Nat.le_of_eq:= @Nat.le_of_eq
theorem ax:type_of% @Nat.le_refl:= @Nat.le_refl
theorem oS:type_of% @Nat.le_succ:= @Nat.le_succ
theorem iw:type_of% @Nat.le_trans:= @Nat.le_trans
theorem ik:type_of% @Nat.lt_irrefl:= @Nat.lt_irrefl
theorem qk:type_of% @Nat.lt_or_ge:= @Nat.lt_or_ge
theorem dU:type_of% @Nat.min_eq_left:= @Nat.min_eq_left
theorem kc:type_of% @Nat.mod_eq_of_lt:= @Nat.mod_eq_of_lt
theorem ql:type_of% @Nat.mul_comm:= @Nat.mul_comm
theorem cS:type_of% @Nat.mul_le_mul_right:= @Nat.mul_le_mul_right
theorem lp:type_of% @Nat.mul_mod:= @Nat.mul_mod
theorem gT:type_of% @Nat.mul_one:= @Nat.mul_one
theorem iE:type_of% @Nat.one_mul:= @Nat.one_mul
theorem oT:type_of% @Nat.pow_add:= @Nat.pow_add
theorem kO:type_of% @Nat.sub_eq_zero_of_le:= @Nat.sub_eq_zero_of_le
theorem aO:type_of% @Nat.zero_add:= @Nat.zero_add
theorem aK:type_of% @Nat.zero_le:= @Nat.zero_le
theorem nu:type_of% @Nat.zero_mul:= @Nat.zero_mul
theorem dN:type_of% @Option.getD_some:= @Option.getD_some
theorem bO:type_of% @Option.isSome_iff_exists:= @Option.isSome_iff_exists
theorem dd:type_of% @Option.map_eq_some_iff:= @Option.map_eq_some_iff
theorem dV:type_of% @Option.map_some:= @Option.map_some
theorem bf:type_of% @Option.some.inj:= @Option.some.inj
theorem az:type_of% @Option.some.injEq:= @Option.some.injEq
theorem cE:type_of% @Prod.mk.injEq:= @Prod.mk.injEq
theorem re:type_of% @Quotient.exists_rep:= @Quotient.exists_rep
theorem mC:type_of% @Sum.getLeft?_inl:= @Sum.getLeft?_inl
theorem da:type_of% @Sum.getRight?_inr:= @Sum.getRight?_inr
theorem oU:type_of% @Sum.isLeft_inl:= @Sum.isLeft_inl
theorem dJ:type_of% @Sum.isLeft_inr:= @Sum.isLeft_inr
theorem jl:type_of% @and_self:= @and_self
theorem iQ:type_of% @and_true:= @and_true
theorem gE:type_of% @beq_eq_false_iff_ne:= @beq_eq_false_iff_ne
theorem dv:type_of% @beq_iff_eq:= @beq_iff_eq
theorem bo:type_of% @congrArg:= @congrArg
theorem jw:type_of% @decide_eq_false:= @decide_eq_false
theorem gU:type_of% @decide_eq_false_iff_not:= @decide_eq_false_iff_not
theorem fY:type_of% @decide_eq_true:= @decide_eq_true
theorem aW:type_of% @decide_eq_true_eq:= @decide_eq_true_eq
theorem cv:type_of% @decide_true:= @decide_true
theorem Cg:type_of% @dif_neg:= @dif_neg
theorem ze:type_of% @dif_pos:= @dif_pos
theorem lH:type_of% @getElem!_pos:= @getElem!_pos
theorem bt:type_of% @if_false:= @if_false
theorem bG:type_of% @if_true:= @if_true
theorem mQ:type_of% @true_and:= @true_and
end Go.Ab
namespace Go.Ab
theorem ak{p:Prop}(h:p:=by omega):p:=h
theorem b8{p:Prop}(h:p:=by kernel_rfl):p:=h
inductive Ty where
 |int (k:IntKind) | bool | str | slice (t:Ty) | unit | pair (a b:Ty) | arr (n:Nat) (t:Ty)
 |ig (t:Ty)
 |uH (t:Ty)
 deriving DecidableEq,Inhabited
@[reducible] def Ty.den:Ty->Type
 | .int _=>Int
 | .bool=>Bool
 | .str=>ByteArray
 | .slice t=>List t.den
 | .unit=>Unit
 | .pair a b=>a.den×b.den
 | .arr _ t=>List t.den
 | .ig t=>Option (List t.den)
 | .uH t=>Option t.den
def Ty.size:Ty->Nat
 | .unit=>0
 | .pair a b=>a.size+b.size
 | .arr n t=>n*t.size
 | .int _ | .bool | .str | .slice _ | .ig _ | .uH _=>1
def Ty.agg:Ty->Bool
 | .unit | .pair _ _ | .arr _ _=>true
 | .int _ | .bool | .str | .slice _ | .ig _ | .uH _=>false
def Ty.zero:(t:Ty)->t.den
 | .int _=>(0:Int)
 | .bool=>false
 | .str=>ByteArray.empty
 | .slice _=> []
 | .unit=>()
 | .pair a b=>(a.zero,b.zero)
 | .arr n t=>ab n t.zero
 | .ig _=>none
 | .uH _=>none
def Ty.comp:Ty->Bool
 | .slice _ | .ig _ | .uH _=>false
 | .pair a b=>a.comp && b.comp
 | .arr _ t=>t.comp
 | .int _ | .bool | .str | .unit=>true
def mu{α:Type}(f:α->α->Bool):List α->List α->Bool
 |[],[]=>true
 |x::xs,y::ys=>f x y && mu f xs ys
 |_,_=>false
def Ty.beq:(t:Ty)->t.den->t.den->Bool
 | .int _,x,y=>(x:Int)==y
 | .bool,x,y=>(x:Bool)==y
 | .str,x,y=>(x:ByteArray).toList==(y:ByteArray).toList
 | .slice t,x,y=>mu t.beq x y
 | .unit,_,_=>true
 | .pair a b,x,y=>a.beq x.1 y.1 && b.beq x.2 y.2
 | .arr _ t,x,y=>mu t.beq x y
 | .ig t,x,y=>mu t.beq (x.getD []) (y.getD [])
 | .uH _,_,_=>false
def vF(t t':Ty)(x:t.den):Option t'.den:=if h:t=t' then some (h▸x) else none
def adZ:(a b:Ty)->Option (a.den->b.den)
 | .ig t,.slice t'=>if h:t=t' then some λo=>cast (bo (λt:Ty=>List t.den) h) (o.getD []) else none
 | .slice t,.ig t'=>if h:t=t' then some λl=>some (cast (bo (λt:Ty=>List t.den) h) l) else none
 | .pair a b,.pair c d=>match adZ a c,adZ b d with
  |some f,some k=>some λx=>(f x.1,k x.2)
  |_,_=>none
 | .slice a,.slice b=>match adZ a b with
  |some f=>some (List.map f)
  |none=>none
 |a,b=>if h:a=b then some (cast (bo Ty.den h)) else none
def aQt(a b:Ty)(x:a.den):b.den:=match adZ a b with | some f=>f x | none=>b.zero
def H8(t t':Ty)(x:t.den):Option t'.den:=
 match vF t t' x with
 |some y=>some y
 |none=>match adZ t t' with
  |some f=>some (f x)
  |none=>none
def nth(t:Ty)(l:List t.den)(i:Nat):t.den:=l.getD i t.zero
inductive Id where
 |bm (k:Nat)
 |new (site j:Nat)
 deriving DecidableEq,Inhabited
inductive La where
 |fst | snd
 |idx (i:Nat)
 |arr
structure vB where
 y:Nat
 ps:Array Tmp
 as:Code
 b:Code
inductive aB where
 |undef
 |gone
 |de | ri | xA | De
 |d (t:Ty) (x:t.den)
 |pr (a b:aB)
 |ptr (id:Id) (ver:Nat) (p:List La) (n:Nat)
 |dO (t:Ty) (x:t.den)
 |bA (id:Id) (ver:Nat) (p:List La) (c i len:Nat)
 |fn (f:FuncId) (caps:aB)
 |cons (a b:aB)
 |nil
 |vec (e:TypeId) (t:Ty) (l:List t.den)
 |sb (l:List Int)
 |bx (e:TypeId) (z:Nat) (c:aB)
 |cj (id:Id) (ver:Nat)
 |mp (k v:Ty) (l:List (k.den×v.den))
 |tC (q:Id) (ver:Nat) (k v:Ty) (rest:List (k.den×v.den)) (cur:Option (k.den×v.den))
 |yl (id:Id) (ver:Nat)
 |rP (c:vB) (frame:aB) (p:Nat)
inductive dE where
 |dead
 |obj (ver:Nat) (fr:Bool) (c:aB)
def dK(c:aB):List dE:=[.obj 0 false c]
def eT(q:Nat):aB:= .ptr (.new q 0) 0 [] 0
def om(q n:Nat):aB:= .bA (.new q 0) 0 [] 0 0 n
def fC:aB:= .d .unit ()
def bF:aB:= .undef
structure AS where
 ct:List aB
 bZ:List dE
 news:List (List dE)
def aP(n:Nat)(l:List aB):List aB:=ab n .undef++l
def bM(n:Nat)(l:List (List dE)):List (List dE):=ab n []++l
inductive Out(α:Type):Type 1 where
 |ok (a:α)
 |fail
 |vi (c:Bool) (r:Out α)
 |get {β:Type} (x:Option β) (f:β->Out α)
 |br (c:Bool) (a b:Out α)
def Out.eval{α:Type}:Out α->Option α
 | .ok a=>some a
 | .fail=>none
 | .vi c r=>match c with | true=>r.eval | false=>none
 | .get x f=>match x with | some y=>(f y).eval | none=>none
 | .br c a b=>match c with | true=>a.eval | false=>b.eval
def aJ{α:Type}(c:Bool)(x y:Option α):Option α:=match c with | true=>x | false=>y
def al{α β:Type}(x:Option α)(f:α->Option β):Option β:=match x with | some a=>f a | none=>none
def Out.run{α R:Type}:Out α->(α->Option R)->Option R
 | .ok a,k=>k a
 | .fail,_=>none
 | .vi c r,k=>aJ c (r.run k) none
 | .get x f,k=>al x λy=>(f y).run k
 | .br c a b,k=>aJ c (a.run k) (b.run k)
def Out.bind{α β:Type}:Out α->(α->Out β)->Out β
 | .ok a,f=>f a
 | .fail,_=> .fail
 | .vi c r,f=> .vi c (r.bind f)
 | .get x g,f=> .get x λy=>(g y).bind f
 | .br c a b,f=> .br c (a.bind f) (b.bind f)
def Out.opt{α:Type}:Option α->Out α
 |some a=> .ok a
 |none=> .fail
def Out.guard{α:Type}(c:Bool)(r:Out α):Out α:=match c with | true=>r | false=> .fail
def aB.size:aB->Nat
 | .d t _=>t.size
 | .pr a b=>a.size+b.size
 |_=>1
def aB.agg:aB->Bool
 | .d t _=>t.agg
 | .pr _ _=>true
 |_=>false
def aB.eQ:aB->Bool
 | .undef | .cons _ _ | .nil | .vec .. | .bx .. | .mp .. | .tC .. | .rP .. =>false
 |_=>true
def aB.strip:aB->aB
 | .bx _ _ c=>c
 |c=>c
def aB.wrap:aB->aB->aB
 | .bx e z _,c=> .bx e z c
 |_,c=>c
def Q1:aB->aB->aB
 | .d a x,.d b y=> .d (.pair a b) (x,y)
 |a,b=> .pr a b
def ofConst:Value->aB
 | .bool b=> .d .bool b
 | .int k n=> .d (.int k) n
 | .string s=> .d .str s
 | .slice none 0 0=> .de
 | .pointer none=> .ri
 | .nilFunc=> .xA
 | .map none=> .De
 |_=> .undef
def AS.slot(s:AS)(i:Nat):aB:=s.ct.getD i .undef
def AS.ev(s:AS):Operand->aB
 | .tmp t=>s.slot t
 | .const v=>ofConst v
 | .func f=> .fn f .nil
 | .global _=> .undef
def AS.put(s:AS)(dst:Option Tmp)(v:aB):AS:=
 match dst with
 |some t=> {s with ct:=s.ct.set t v}
 |none=>s
def AS.bW(s:AS):Id->Option dE
 | .bm k=>s.bZ[k]?
 | .new i j=>(s.news.getD i [])[j]?
def AS.bl(s:AS)(id:Id)(e:dE):AS:=
 match id with
 | .bm k=> {s with bZ:=s.bZ.set k e}
 | .new i j=> {s with news:=s.news.set i ((s.news.getD i []).set j e)}
def AS.dY(s:AS)(i:Nat):Bool:=match s.news[i]? with | some []=>true | _=>false
def AS.born(s:AS)(i:Nat)(es:List dE):AS:= {s with news:=s.news.set i es}
def AS.obj(s:AS)(id:Id):Option (Nat×Bool×aB):=
 match s.bW id with
 |some (.obj v f c)=>some (v,f,c)
 |_=>none
def adt(P:Program)(nl:Bool):Nat->TypeId->Option Ty
 | 0,_=>none
 |n+1,T=>
  match P.underlying T with
  |some (.int k)=>some (.int k)
  |some .bool=>some .bool
  |some .string=>some .str
  |some (.slice e)=>match adt P false n e with | some t=>some (match nl with | true=> .ig t | false=> .slice t) | none=>none
  |some (.array k e)=>match adt P nl n e with | some t=>some (.arr k t) | none=>none
  |some (.pointer e)=>match adt P false n e with | some t=>some (.uH t) | none=>none
  |some (.struct fs)=>fs.toList.foldr (λf acc=>match adt P nl n f.type,acc with | some a,some b=>some (.pair a b) | _,_=>none) (some .unit)
  |_=>none
def ap9(P:Program):Nat->TypeId->Option Ty:=adt P false
def zeroOf(P:Program):Nat->TypeId->Option aB
 | 0,_=>none
 |n+1,T=>
  match P.underlying T with
  |some (.int k)=>some (.d (.int k) (0:Int))
  |some .bool=>some (.d .bool false)
  |some .string=>some (.d .str ByteArray.empty)
  |some (.slice _)=>some .de
  |some (.pointer _)=>some .ri
  |some (.map _ _)=>some .De
  |some (.func _ _ _)=>some .xA
  |some (.array k e)=>match ap9 P n e with | some t=>some (.d (.arr k t) (ab k t.zero)) | none=>none
  |some (.struct fs)=>fs.toList.foldr (λf acc=>match zeroOf P n f.type,acc with | some a,some b=>some (Q1 a b) | _,_=>none) (some (.d .unit ()))
  |_=>none
def depth:Nat:=12
def fits(P:Program)(T:TypeId)(v:aB):Bool:=
 v.eQ && (P.cellsOf T==v.size) &&
 (match P.underlying T with | some (.struct _)=>v.agg | some (.array _ _)=>v.agg | some _=> !v.agg | none=>false)
def oz:Nat->List La
 | 0=> [.fst]
 |n+1=> .snd::oz n
def loc:aB->List La->Out (Nat×aB)
 |c,[]=> .ok (0,c)
 |c,.arr::p=>loc c p
 | .pr a _,.fst::p=>loc a p
 | .pr a b,.snd::p=>(loc b p).bind λ(n,v)=> .ok (a.size+n,v)
 | .d (.pair a _) x,.fst::p=>loc (.d a x.1) p
 | .d (.pair a b) x,.snd::p=>(loc (.d b x.2) p).bind λ(n,v)=> .ok (a.size+n,v)
 | .d (.arr _ t) l,.idx i::p=> .vi (decide (i < (l:List t.den).length)) ((loc (.d t (nth t l i)) p).bind λ(n,v)=> .ok (i*t.size+n,v))
 | .vec _ t l,.idx i::p=> .vi (decide (i < l.length)) ((loc (.d t (nth t l i)) p).bind λ(n,v)=> .ok (i*t.size+n,v))
 |_,_::_=> .fail
def yy:aB->List La->aB->Out aB
 |c,.arr::p,v=>yy c p v
 | .vec ..,[],_=> .fail
 | .mp ..,[],_=> .fail
 | .tC ..,[],_=> .fail
 | .rP ..,[],_=> .fail
 |c,[],v=> .guard (v.eQ && (c.size==v.size)) (.ok v)
 | .pr a b,.fst::p,v=>(yy a p v).bind λa'=> .ok (Q1 a' b)
 | .pr a b,.snd::p,v=>(yy b p v).bind λb'=> .ok (Q1 a b')
 | .d (.pair a b) x,.fst::p,v=>(yy (.d a x.1) p v).bind λa'=> .ok (Q1 a' (.d b x.2))
 | .d (.pair a b) x,.snd::p,v=>(yy (.d b x.2) p v).bind λb'=> .ok (Q1 (.d a x.1) b')
 | .d (.arr n t) l,.idx i::p,v=> .vi (decide (i < (l:List t.den).length)) ((yy (.d t (nth t l i)) p v).bind fun
   | .d t' y=>(Out.opt (vF t' t y)).bind λy=> .ok (.d (.arr n t) ((l:List t.den).set i y))
   |_=> .fail)
 | .vec e t l,.idx i::p,v=> .vi (decide (i < l.length)) ((yy (.d t (nth t l i)) p v).bind fun
   | .d t' y=>(Out.opt (vF t' t y)).bind λy=> .ok (.vec e t (l.set i y))
   |_=> .fail)
 |_,_::_,_=> .fail
def AS.row(s:AS)(id:Id)(ver:Nat)(p:List La):Out (Nat×(t:Ty)×List t.den):=
 match s.obj id with
 |some (v,_,c)=> .guard (v==ver) ((loc c.strip p).bind fun
  | (n,.d (.arr _ t) l)=> .ok (n,⟨t,l⟩)
  | (n,.vec _ t l)=> .ok (n,⟨t,l⟩)
  |_=> .fail)
 |none=> .fail
def cut{α:Type}(l:List α)(i len:Nat):List α:=(l.drop i).take len
def AS.jq(s:AS):(t:Ty)->aB->Out t.den
 |t,.d t' x=>Out.opt (H8 t' t x)
 | .slice _,.de=> .ok []
 | .ig _,.de=> .ok none
 | .slice t,.bA id ver p c i len=>(s.row id ver p).bind λr=> .vi (decide (r.1+i*r.2.1.size=c/\i+len<=r.2.2.length)) (Out.opt (H8 (.slice r.2.1) (.slice t) (cut r.2.2 i len)))
 | .ig t,.bA id ver p c i len=>(s.row id ver p).bind λr=> .vi (decide (r.1+i*r.2.1.size=c/\i+len<=r.2.2.length)) (Out.opt (H8 (.slice r.2.1) (.ig t) (cut r.2.2 i len)))
 | .pair a b,.pr x y=>(s.jq a x).bind λx=>(s.jq b y).bind λy=> .ok (x,y)
 |_,_=> .fail
def aB.shared:aB->List Id
 | .bA id _ _ _ _ _=> [id]
 | .pr a b=>a.shared++b.shared
 |_=> []
def AS.freeze(s:AS)(id:Id):AS:=
 match s.bW id with
 |some (.obj v _ c)=>s.bl id (.obj v true c)
 |_=>s
def AS.bB(s:AS):List Id->AS
 |[]=>s
 |id::ids=>(s.freeze id).bB ids
end Go.Ab
namespace Go.Ab
def aEB{α:Type}(f:α->List Value->Option (List Value)):List α->List Value->Option (List Value)
 |[],cs=>some cs
 |x::xs,cs=>match f x cs with | some r=>aEB f xs r | none=>none
def zh:(t:Ty)->t.den->List Value->Option (List Value)
 | .int k,x,.int k' n::r=>match decide (k=k'),decide (n=(x:Int)) with | true,true=>some r | _,_=>none
 | .bool,x,.bool b::r=>match decide (b=(x:Bool)) with | true=>some r | false=>none
 | .str,x,.string s::r=>match decide (s=(x:ByteArray)) with | true=>some r | false=>none
 | .slice _,[],.slice none 0 0::r=>some r
 | .ig _,none,.slice none 0 0::r=>some r
 | .uH _,none,.pointer none::r=>some r
 | .unit,_,r=>some r
 | .pair a b,x,r=>match zh a x.1 r with | some r'=>zh b x.2 r' | none=>none
 | .arr n t,l,r=>match decide ((l:List t.den).length=n) with | true=>aEB (zh t) l r | false=>none
 |_,_,_=>none
def W9:aB->List Value->Option (List Value)
 | .d t x,r=>zh t x r
 | .de,.slice none 0 0::r=>some r
 | .ri,.pointer none::r=>some r
 | .xA,.nilFunc::r=>some r
 | .De,.map none::r=>some r
 | .pr a b,r=>match W9 a r with | some r'=>W9 b r' | none=>none
 |_,_=>none
def te:Value->Bool | .agg _=>true | _=>false
def ala(P:Program)(T:TypeId)(z:aB):Bool:=
 match P.info? T with
 |some i=>match i.zero with
  |some zv=>(match W9 z zv.cells.toList with | some []=>true | _=>false) && (te zv==z.agg)
  |none=>false
 |none=>false
structure fK where
 val:aB
 bZ:List dE
 news:List dE
structure Entry where
 params:List (Option Ty)
 X:Type
 run:List aB->List dE->Option X
 out:List aB->List dE->X->fK
 sp:X->Out X:= .ok
 awF:∀x y,(sp x).eval=some y->y=x:=by exact λx y h=>(bf h).symm
 rel:Bool:=false
 set:List aB->List dE->X->Prop:=λ_ _ _=>False
abbrev oR:=FuncId->List aB->Option Entry
def aB.ids:aB->List Id
 | .ptr id _ _ _=> [id]
 | .bA id _ _ _ _ _=> [id]
 | .pr a b=>a.ids++b.ids
 | .cons a b=>a.ids++b.ids
 | .fn _ c=>c.ids
 | .bx _ _ c=>c.ids
 | .cj id _=> [id]
 | .yl id _=> [id]
 | .rP _ f _=>f.ids
 | .tC id _ _ _ _ _=> [id]
 |_=> []
def dE.ids:dE->List Id
 | .obj _ _ c=>c.ids
 | .dead=> []
def AS.reach(s:AS):Nat->List Id->List Id->List Id
 | 0,_,acc=>acc
 |_+1,[],acc=>acc
 |n+1,id::todo,acc=>if acc.contains id then s.reach n todo acc else s.reach n (((s.bW id).getD .dead).ids++todo) (acc++ [id])
def idxOf(id:Id):List Id->Option Nat
 |[]=>none
 |x::xs=>if x=id then some 0 else(idxOf id xs).map (· +1)
def aB.iV(ρ:Id->Nat->Option (Id×Nat)):aB->aB
 | .ptr id ver p n=>match ρ id ver with | some r=> .ptr r.1 r.2 p n | none=> .gone
 | .bA id ver p c i len=>match ρ id ver with | some r=> .bA r.1 r.2 p c i len | none=> .gone
 | .pr a b=> .pr (a.iV ρ) (b.iV ρ)
 | .cons a b=> .cons (a.iV ρ) (b.iV ρ)
 | .fn f c=> .fn f (c.iV ρ)
 | .bx e z c=> .bx e z (c.iV ρ)
 | .cj id ver=>match ρ id ver with | some r=> .cj r.1 r.2 | none=> .gone
 | .yl id ver=>match ρ id ver with | some r=> .yl r.1 r.2 | none=> .gone
 | .rP k f p=> .rP k (f.iV ρ) p
 | .tC id _ k v rest cur=> .tC id 0 k v rest cur
 |v=>v
def AS.xG(s:AS)(ids:List Id)(id:Id)(ver:Nat):Option (Id×Nat):=
 match idxOf id ids,s.obj id with
 |some k,some (v,_,_)=>if v=ver then some (.bm k,0) else none
 |_,_=>none
def AS.mZ(s:AS)(ids:List Id)(id:Id):dE:=
 match s.bW id with
 |some (.obj _ fr c)=> .obj 0 fr (c.iV (s.xG ids))
 |_=> .dead
def AS.CS(s:AS)(id:Id):Nat:=match s.obj id with | some (v,_,_)=>v | none=>0
def aND(ids:List Id)(dst:Nat):Id->Id
 | .bm k=>ids.getD k (.bm 0)
 | .new _ j=> .new dst j
def AS.vY(s:AS)(ids:List Id)(dst:Nat):Id->Nat->Option (Id×Nat)
 | .bm k,v=>match ids[k]? with | some id=>some (id,s.CS id+v) | none=>none
 | .new _ j,v=>some (.new dst j,v)
def AS.sY(s:AS)(ids:List Id)(dst:Nat)(ver:Nat):dE->dE
 | .obj v fr c=> .obj (ver+v) fr (c.iV (s.vY ids dst))
 | .dead=> .dead
def AS.conv(s:AS):List (Option Ty)->List aB->Out (List aB×List Id)
 |[],[]=> .ok ([],[])
 |some t::ps,v::vs=>(s.jq t v).bind λx=>(s.conv ps vs).bind λr=> .ok (.d t x::r.1,v.shared++r.2)
 |none::ps,v::vs=>(s.conv ps vs).bind λr=> .ok (v::r.1,r.2)
 |_,_=> .fail
def AS.jK(s0:AS)(all:List Id)(dst:Nat)(s:AS):List Id->List dE->AS
 |id::ids,e::es=>AS.jK s0 all dst (s.bl id (s0.sY all dst (s0.CS id) e)) ids es
 |_,_=>s
def aB.list:aB->List aB
 | .cons a b=>a::b.list
 |_=> []
def AS.made(s:AS)(ids:List Id)(t:Nat):List dE->AS
 |[]=>s
 |e::es=>s.born t ((e::es).map (s.sY ids t 0))
def AS.back(s:AS)(ids:List Id)(dst:Option Tmp)(g:fK):Out AS:=
 match dst with
 |some t=> .guard ((g.bZ.length==ids.length) && (g.news.isEmpty || s.dY t))
   (.ok ((AS.jK s ids t (s.made ids t g.news) ids g.bZ).put dst (g.val.iV (s.vY ids t))))
 |none=> .guard ((g.bZ.length==ids.length) && g.news.isEmpty) (.ok (AS.jK s ids 0 s ids g.bZ))
def AS.agm(s:AS)(vs:List aB):List Id:=s.reach 64 (vs.flatMap aB.ids) []
def AS.TK(s:AS)(id:Id):Bool:=match s.obj id with | some (_,true,.mp ..)=>false | _=>true
def AS.enter(s:AS)(en:Entry)(dst:Option Tmp)(ids:List Id)(vs:List aB):Out AS:= .guard (ids.all λid=>(s.obj id).isSome && s.TK id) (.get (en.run (vs.map (aB.iV (s.xG ids))) (ids.map (s.mZ ids))) λx=>(en.sp x).bind λx=>s.back ids dst (en.out (vs.map (aB.iV (s.xG ids))) (ids.map (s.mZ ids)) x))
def AS.call(s:AS)(en:Entry)(dst:Option Tmp)(vs:List aB):Out AS:=(s.conv en.params vs).bind λr=>(s.bB r.2).enter en dst ((s.bB r.2).agm r.1) r.1
def cG(op:BinOp)(k:IntKind)(x y:Int):Int:=
 match op with
 | .and=>k.wrap ((bh k.bits x &&& bh k.bits y).toNat)
 | .or=>k.wrap ((bh k.bits x ||| bh k.bits y).toNat)
 | .xor=>k.wrap ((bh k.bits x^^^bh k.bits y).toNat)
 |_=>k.wrap ((bh k.bits x &&& ~~~bh k.bits y).toNat)
def aFH(op:BinOp)(k:IntKind)(x:Int)(k':IntKind)(y:Int):Out aB:=
 match op with
 | .shl=> .vi (decide (0<=y)) (.ok (.d (.int k) (k.wrap (x*2^(min y.toNat k.bits)))))
 | .shr=> .vi (decide (0<=y)) (.ok (.d (.int k) (x.fdiv (2^(min y.toNat k.bits)))))
 |_=> .guard (decide (k=k')) (match op with
  | .add=> .ok (.d (.int k) (k.wrap (x+y)))
  | .sub=> .ok (.d (.int k) (k.wrap (x - y)))
  | .mul=> .ok (.d (.int k) (k.wrap (x*y)))
  | .quo=> .vi (!(decide (y=0))) (.ok (.d (.int k) (k.wrap (x.tdiv y))))
  | .rem=> .vi (!(decide (y=0))) (.ok (.d (.int k) (x.tmod y)))
  | .eql=> .ok (.d .bool (x==y))
  | .neq=> .ok (.d .bool (x !=y))
  | .lss=> .ok (.d .bool (decide (x < y)))
  | .leq=> .ok (.d .bool (decide (x<=y)))
  | .gtr=> .ok (.d .bool (decide (x > y)))
  | .geq=> .ok (.d .bool (decide (x>=y)))
  |op=> .ok (.d (.int k) (cG op k x y)))
def aIo(op:BinOp)(x y:ByteArray):Out aB:=
 match op with
 | .add=> .vi (decide (((x.size+y.size:Nat):Int)<=IntKind.i64.max)) (.ok (.d .str (x++y)))
 | .eql=> .ok (.d .bool (x.toList==y.toList))
 | .neq=> .ok (.d .bool (!(x.toList==y.toList)))
 | .lss=> .ok (.d .bool (Op.bytesLess x.toList y.toList))
 | .geq=> .ok (.d .bool (!(Op.bytesLess x.toList y.toList)))
 |_=> .fail
def N4(P:Program)(T:TypeId)(b:Bool):Bool:=
 match P.underlying T with | some (.struct _)=>b | some (.array _ _)=>b | some _=> !b | none=>false
def NL(P:Program)(vi:TypeId->Ty->Bool):List Field->Ty->Nat->Bool
 |[],.unit,_=>true
 |f::fs,.pair a b,off=> !(f.name== "_") && (f.offset==off) && !(a.size==0) && (P.cellsOf f.type==a.size) && N4 P f.type a.agg && vi f.type a && NL P vi fs b (off+a.size)
 |_,_,_=>false
def tx(P:Program):Nat->TypeId->Ty->Bool
 | 0,_,_=>false
 |n+1,T,t=>match P.underlying T,t with
  |some (.int _),.int _=>true
  |some .bool,.bool=>true
  |some .string,.str=>true
  |some (.array m e),.arr m' t'=>(m==m') && !(t'.size==0) && (P.cellsOf e==t'.size) && N4 P e t'.agg && tx P n e t'
  |some (.struct fs),t=> !P.stoodInHeld T && NL P (tx P n) fs.toList t 0
  |_,_=>false
def BY(P:Program)(T:TypeId):aB->aB->Out Bool
 | .d t x,.d t' y=>(Out.opt (vF t' t y)).bind λy=> .guard ((t.agg && !P.eqGuardType P.depth T || decide (t= .bool)) && tx P depth T t) (.ok (t.beq x y))
 | .de,.de=> .guard (isSl P T) (.ok true)
 | .d (.slice t) l,.de=> .guard (isSl P T) (.vi (decide (0 < (l:List t.den).length)) (.ok false))
 | .de,.d (.slice t) l=> .guard (isSl P T) (.vi (decide (0 < (l:List t.den).length)) (.ok false))
 | .bA _ _ _ _ _ len,.de=> .guard (isSl P T) (.vi (decide (0 < len)) (.ok false))
 | .de,.bA _ _ _ _ _ len=> .guard (isSl P T) (.vi (decide (0 < len)) (.ok false))
 | .ri,.ri=> .guard (isPt P T) (.ok true)
 | .ptr ..,.ri=> .guard (isPt P T) (.ok false)
 | .ri,.ptr .. => .guard (isPt P T) (.ok false)
 | .d (.uH t) x,.ri=> .guard (isPt P T) (.ok (x:Option t.den).isNone)
 | .ri,.d (.uH t) x=> .guard (isPt P T) (.ok (x:Option t.den).isNone)
 | .xA,.xA=> .guard (isFn P T) (.ok true)
 | .fn ..,.xA=> .guard (isFn P T) (.ok false)
 | .xA,.fn .. => .guard (isFn P T) (.ok false)
 |_,_=> .fail
where
 isSl (P:Program) (T:TypeId):Bool:=match P.underlying T with | some (.slice _)=>true | _=>false
 isPt (P:Program) (T:TypeId):Bool:=match P.underlying T with | some (.pointer _)=>true | _=>false
 isFn (P:Program) (T:TypeId):Bool:=match P.underlying T with | some (.func _ _ _)=>true | _=>false
def aOg(P:Program)(T:TypeId)(op:BinOp)(x y:aB):Out aB:=
 match x,y with
 | .d (.int k) a,.d (.int k') b=>aFH op k a k' b
 | .d .str a,.d .str b=>aIo op a b
 |x,y=>match op with
  | .eql=>(BY P T x y).bind λb=> .ok (.d .bool b)
  | .neq=>(BY P T x y).bind λb=> .ok (.d .bool (!b))
  |_=> .fail
def aTa(op:UnOp)(x:aB):Out aB:=
 match op,x with
 | .not,.d .bool b=> .ok (.d .bool (!b))
 | .neg,.d (.int k) n=> .ok (.d (.int k) (k.wrap (0 - n)))
 | .xor,.d (.int k) n=> .ok (.d (.int k) (cG .xor k (if k.signed then -1 else k.max) n))
 |_,_=> .fail
def bH(s:ByteArray):List Int:=s.data.toList.map λb=>(b.toNat:Int)
def fy(l:List Int):ByteArray:=⟨(l.map λn=>fm n.toNat).toArray⟩
def AS.asX(s:AS)(t:Ty)(v:aB):Out t.den:=s.jq t v
def aD4(P:Program)(s:AS)(obj:Bool)(src dst:TypeId)(x:aB):Out aB:=
 match x,P.underlying dst,P.underlying src with
 | .d (.int _) n,some (.int k),some _=> .ok (.d (.int k) (k.wrap n))
 | .d .str a,some .string,some _=> .ok (.d .str a)
 | .d .str a,some (.slice e),some _=>match P.underlying e with
  |some (.int .u8)=>match obj with | true=> .ok (.sb (bH a)) | false=> .ok (.d (.slice (.int .u8)) (bH a))
  |_=> .fail
 |x,some .string,some (.slice e)=>match P.underlying e with
  |some (.int .u8)=>(s.asX (.slice (.int .u8)) x).bind λl=> .ok (.d .str (fy l))
  |_=> .fail
 |_,_,_=> .fail
def aD5(P:Program)(src dst:TypeId)(l:List Int):Out aB:=
 match P.underlying dst,P.underlying src with
 |some (.slice e),some (.slice _)=>match P.underlying e with
  |some (.int .u8)=> .guard (src==dst) (.ok (.d (.slice (.int .u8)) l))
  |_=> .fail
 |_,_=> .fail
def afM(P:Program)(s:AS)(obj:Bool)(src dst:TypeId)(x:aB):Out aB:=
 match x with
 | .sb l=>aD5 P src dst l
 |x=>aD4 P s obj src dst x
def amm(P:Program)(s:AS)(d:Option Tmp)(src dst:TypeId)(id:Id)(ver len:Nat):Out AS:=
 match s.obj id,P.underlying dst with
 |some (v,false,.vec _ (.int .u8) l),some (.slice e)=>match P.underlying e with
  |some (.int .u8)=> .guard ((v==ver) && (src==dst)) (.vi (decide (0 < len/\len=(l:List Int).length)) (.ok ((s.bl id .dead).put d (.d (.slice (.int .u8)) l))))
  |_=> .fail
 |_,_=> .fail
def afN(P:Program)(s:AS)(src dst:TypeId)(id:Id)(ver:Nat):Out aB:=
 match s.obj id with
 |some (v,_,.bx e 0 c)=>match P.underlying src,P.underlying dst with
  |some (.pointer t),some .unsafePointer=> .guard ((v==ver) && !(P.cellsOf t==0) && !(c.size==0)) (.ok (.ptr id ver [] 0))
  |some .unsafePointer,some (.pointer u)=> .guard ((v==ver) && !(P.cellsOf u==0) && liesAt P P.depth e (c.size / P.cellsOf e) 0 u 1) (.ok (.ptr id ver [] 0))
  |_,_=> .fail
 |_=> .fail
def aSi(P:Program)(T:TypeId):Bool:=match P.underlying T with | some (.pointer u)=>(P.info? u).isSome | _=>false
def aQu(P:Program)(s:AS)(T:TypeId)(op:BinOp)(i:Id)(v:Nat)(j:Id)(w:Nat):Out aB:=
 match s.obj i with
 |some (v',_,_)=> .guard (decide (i=j) && (v==w) && (v==v') && aSi P T) (match op with | .eql=> .ok (.d .bool true) | .neq=> .ok (.d .bool false) | _=> .fail)
 |none=> .fail
def apS(P:Program)(s:AS)(d:Option Tmp)(T:TypeId)(id:Id)(ver:Nat)(n:Int):Out AS:=
 match s.obj id,P.underlying T with
 |some (v,false,.vec e (.int .u8) l),some (.pointer u)=> .guard ((v==ver) && (u==e) && (P.cellsOf e==1))
   (.vi (decide (0 < n/\n<=((l:List Int).length:Int))) (.ok ((s.bl id .dead).put d (.d .str (fy ((l:List Int).take n.toNat))))))
 |_,_=> .fail
def asInt:aB->Out Int
 | .d (.int _) n=> .ok n
 |_=> .fail
def bounds(s:AS)(n:Nat)(lo hi:Option Operand):Out (Nat×Nat):=
 (match hi with
  |some h=>(asInt (s.ev h)).bind λh=> .vi (decide (0<=h/\h<=(n:Int))) (.ok h.toNat)
  |none=> .ok n).bind λh=>
 (match lo with
  |some l=>(asInt (s.ev l)).bind λl=> .vi (decide (0<=l/\l<=(h:Int))) (.ok l.toNat)
  |none=> .ok 0).bind λl=> .ok (l,h)
def lD(P:Program)(T:TypeId):Option Nat:=
 match P.underlying T with
 |some (.array _ e)=>match P.cellsOf e with | 0=>none | z+1=>some (z+1)
 |some (.slice e)=>match P.cellsOf e with | 0=>none | z+1=>some (z+1)
 |_=>none
def yw(P:Program)(T:TypeId):Option Nat:=
 match P.underlying T with
 |some (.array n _)=>some n
 |_=>none
def JG(P:Program)(s:AS)(T:TypeId)(x:aB)(lo hi:Option Operand):Out aB:=
 match x with
 | .d .str a=> .guard (match P.underlying T with | some .string=>true | _=>false) ((bounds s a.size lo hi).bind λb=> .ok (.d .str (a.extract b.1 b.2)))
 | .d (.slice t) l=> .guard (match lD P T,yw P T with | some z,none=>z==t.size | _,_=>false)
   ((bounds s (l:List t.den).length lo hi).bind λb=> .ok (.d (.slice t) (cut l b.1 (b.2 - b.1))))
 | .de=> .guard (match lD P T,yw P T with | some _,none=>true | _,_=>false) ((bounds s 0 lo hi).bind λ_=> .ok .de)
 | .bA id ver p c i len=>(s.row id ver p).bind λr=> .guard (match lD P T,yw P T with | some z,none=>z==r.2.1.size | _,_=>false)
   ((bounds s len lo hi).bind λb=> .ok (.bA id ver p (c+b.1*r.2.1.size) (i+b.1) (b.2 - b.1)))
 | .ptr id ver p n=>(s.row id ver p).bind λr=> .guard (match lD P T,yw P T with | some z,some _=>z==r.2.1.size | _,_=>false)
   (.vi (decide (yw P T=some r.2.2.length/\r.1=n)) ((bounds s ((yw P T).getD 0) lo hi).bind λb=> .ok (.bA id ver (p++ [.arr]) (n+b.1*r.2.1.size) b.1 (b.2 - b.1))))
 | .dO (.arr n t) l=> .guard (match lD P T,yw P T with | some z,some m=>(z==t.size) && (m==n) | _,_=>false)
   ((bounds s n lo hi).bind λb=> .ok (.d (.slice t) (cut l b.1 (b.2 - b.1))))
 |_=> .fail
def aLH:aB->Int
 | .d (.slice t) l=>((l:List t.den).length:Int)
 | .bA _ _ _ _ _ len=>(len:Int)
 | .de=>0
 |_=> -1
def amL:Option Operand->aB->aB
 |some _,.bA id ver p c i len=> .bA id ver (p++ [.arr]) c i len
 |_,v=>v
def RV(P:Program)(s:AS)(T:TypeId)(x:aB)(lo:Option Operand)(h m:Operand):Out aB:=(asInt (s.ev h)).bind λhv=>(asInt (s.ev m)).bind λmv=> .vi (decide (0<=hv/\hv<=mv/\mv<=aLH x)) ((JG P s T x lo (some h)).bind λv=> .ok (amL (some m) v))
def tc(P:Program)(s:AS)(T:TypeId)(x:aB)(i:Int):Out aB:=
 match x with
 | .d (.slice t) l=> .guard (match lD P T,yw P T with | some z,none=>z==t.size | _,_=>false)
   (.vi (decide (0<=i/\i < ((l:List t.den).length:Int))) (.ok (.dO t (nth t l i.toNat))))
 | .dO (.arr n t) l=> .guard (match lD P T,yw P T with | some z,some m=>(z==t.size) && (m==n) | _,_=>false)
   (.vi (decide (0<=i/\i < (n:Int))) (.ok (.dO t (nth t l i.toNat))))
 | .bA id ver p c j len=>(s.row id ver p).bind λr=> .guard (match lD P T,yw P T with | some z,none=>z==r.2.1.size | _,_=>false)
   (.vi (decide (0<=i/\i < (len:Int))) (.ok (.ptr id ver (p++ [.idx (j+i.toNat)]) (c+i.toNat*r.2.1.size))))
 | .ptr id ver p n=> .guard (match lD P T,yw P T with | some _,some _=>true | _,_=>false)
   (.vi (decide (0<=i/\i < (((yw P T).getD 0:Nat):Int))) (.ok (.ptr id ver (p++ [.idx i.toNat]) (n+i.toNat*(lD P T).getD 0))))
 |_=> .fail
def fieldInfo(P:Program)(T:TypeId)(f:Nat):Option (Nat×TypeId):=
 match P.underlying T with
 |some (.struct fs)=>match fs[f]? with | some x=>some (x.offset,x.type) | none=>none
 |_=>none
def partOf:aB->Nat->Option (Nat×aB)
 | .d (.pair a _) x,0=>some (0,.d a x.1)
 | .d (.pair a b) x,n+1=>match partOf (.d b x.2) n with | some (o,v)=>some (a.size+o,v) | none=>none
 | .pr a _,0=>some (0,a)
 | .pr a b,n+1=>match partOf b n with | some (o,v)=>some (a.size+o,v) | none=>none
 |_,_=>none
def FJ(P:Program)(T:TypeId)(x:aB)(f:Nat):Out aB:=
 match fieldInfo P T f with
 |some (o,ft)=> .guard (!(P.cellsOf ft==0)) (match x with
  | .ptr id ver p n=> .ok (.ptr id ver (p++oz f) (n+o))
  | .dO t x=>match partOf (.d t x) f with
   |some (o',.d t' y)=> .guard (o==o') (.ok (.dO t' y))
   |_=> .fail
  | .d (.uH t) x=> .get (x:Option t.den) λx=>match partOf (.d t x) f with
   |some (o',.d t' y)=> .guard (o==o') (.ok (.dO t' y))
   |_=> .fail
  |_=> .fail)
 |none=> .fail
def aiP(P:Program)(T:TypeId)(x:aB)(f:Nat):Out aB:=
 match fieldInfo P T f,partOf x f with
 |some (o,ft),some (o',v)=> .guard ((o==o') && fits P ft v) (.ok v)
 |_,_=> .fail
def aja(P:Program)(T:TypeId)(x:aB)(i:Int):Out aB:=
 match x,P.underlying T with
 | .d (.arr n t) l,some (.array m e)=> .guard ((n==m) && fits P e (.d t t.zero)) (.vi (decide (0<=i/\i < (n:Int))) (.ok (.d t (nth t l i.toNat))))
 | .d .str a,some .string=> .vi (decide (0<=i/\i < (a.size:Int))) (.ok (.d (.int .u8) ((a.data.toList.getD i.toNat 0).toNat:Int)))
 |_,_=> .fail
def aPD:aB->Out aB
 | .d (.ig t) l=> .vi (l:Option (List t.den)).isNone (.ok .de)
 |v=> .ok v
def QU(P:Program)(s:AS)(T:TypeId)(x:aB):Out aB:=
 match x with
 | .ptr id ver p n=>match s.obj id with
  |some (v,_,c)=> .guard (v==ver) ((loc c.strip p).bind λr=> .guard (fits P T r.2) (.vi (decide (r.1=n)) (aPD r.2)))
  |none=> .fail
 | .dO t y=> .guard (fits P T (.d t y)) (.ok (.d t y))
 | .d (.uH t) y=> .get (y:Option t.den) λy=> .guard (fits P T (.d t y)) (.ok (.d t y))
 |_=> .fail
def JK(P:Program)(s:AS)(T:TypeId)(x v:aB):Out AS:=
 match x with
 | .ptr id ver p n=>match s.obj id with
  |some (ve,fr,c)=> .guard ((ve==ver) && !fr && fits P T v) ((loc c.strip p).bind λr=> .guard (fits P T r.2) (.vi (decide (r.1=n)) ((yy c.strip p v).bind λc'=> .ok (s.bl id (.obj ve fr (c.wrap c'))))))
  |none=> .fail
 |_=> .fail
def aLG(P:Program)(T:TypeId)(x:aB):Out aB:=
 match P.underlying T,x with
 |some .string,.d .str a=> .ok (.d (.int .i64) (a.size:Int))
 |some (.slice _),.d (.slice t) l=> .ok (.d (.int .i64) ((l:List t.den).length:Int))
 |some (.slice _),.de=> .ok (.d (.int .i64) (0:Int))
 |some (.slice _),.bA _ _ _ _ _ len=> .ok (.d (.int .i64) (len:Int))
 |some (.array n _),_=> .ok (.d (.int .i64) (n:Int))
 |_,_=> .fail
def IJ(P:Program)(s:AS)(t:Ty)(X:TypeId)(x:aB):Out (List t.den):=
 match x with
 | .d .str a=>match P.underlying X with
  |some .string=>Out.opt (vF (.slice (.int .u8)) (.slice t) (bH a))
  |_=> .fail
 |x=>match P.underlying X with
  |some (.slice _)=>s.asX (.slice t) x
  |_=> .fail
def db(n b:Nat):Bool:=decide (n*b<=140737488355328/\n<=9223372036854775807)
def FF(P:Program)(nl:Bool)(T:TypeId):Option (TypeId×Ty×Nat):=
 match P.underlying T with
 |some (.slice e)=>match adt P nl depth e with
  |some t=>match(P.cellsOf e==t.size) && !(t.size==0) && ala P e (.d t t.zero) with | true=>some (e,t,P.bytesOf e) | false=>none
  |none=>none
 |_=>none
def XR(P:Program)(T:TypeId):Option (TypeId×Ty×Nat):=FF P false T
def aiE(P:Program)(T:TypeId):Option (TypeId×Ty×Nat):=
 match Nat.ble 100000 T with
 |true=>FF P true (T - 100000)
 |false=>FF P false T
def anb(P:Program)(s:AS)(dst:Option Tmp)(T X:TypeId)(n:Int):Out AS:=
 match XR P T,dst,P.underlying X with
 |some (e,t,b),some q,some (.int _)=> .guard (s.dY q) (.vi (decide (0 < n) && db n.toNat b)
   (.ok ((s.born q [.obj 0 false (.vec e t (ab n.toNat t.zero))]).put dst (.bA (.new q 0) 0 [] 0 0 n.toNat))))
 |_,_,_=> .fail
def azv(mx:Bool):List aB->Out aB
 |[.d (.int k) x,.d (.int k') y]=> .guard (decide (k=k')) (.ok (.d (.int k) (match mx with | true=>(if x < y then y else x) | false=>(if y < x then y else x))))
 |[.d (.int k) x,.d (.int k') y,.d (.int k2) z]=> .guard (decide (k=k') && decide (k=k2)) (.ok (.d (.int k) (match mx with | true=>(if(if x < y then y else x) < z then z else(if x < y then y else x)) | false=>(if z < (if y < x then y else x) then z else(if y < x then y else x)))))
 |_=> .fail
def yC(P:Program)(s:AS)(nl dt:Bool)(dst:Option Tmp)(T X:TypeId)(x y:aB):Out AS:=
 match FF P nl T,dst with
 |some (e,t,b),some q=>(IJ P s t X y).bind λm=>
  match x with
  | .de=>match dt with
   |true=> .vi (db m.length b && decide (0 < m.length)) (.ok (s.put dst (.d (.ig t) (some m))))
   |false=> .guard (s.dY q) (.vi (db m.length b) (.ok ((s.born q [.obj 0 false (.vec e t m)]).put dst (.bA (.new q 0) 0 [] 0 0 m.length))))
  | .bA id ver [] 0 0 len=>match s.obj id with
   |some (v,fr,.vec e' t' l)=> .guard ((v==ver) && (e==e')) ((Out.opt (vF (.slice t') (.slice t) l)).bind λl=>
     .vi (decide (len<=l.length)) <| .vi ((!fr) || decide (len=l.length)) (.vi (db (len+m.length) b)
      (.ok ((s.bl id (.obj (v+1) fr (.vec e t (l.take len++m)))).put dst (.bA id (v+1) [] 0 0 (len+m.length))))))
   |_=> .fail
  |_=> .fail
 |_,_=> .fail
def Zl(P:Program)(s:AS)(dst:Option Tmp)(T X:TypeId)(x y:aB):Out AS:=
 match XR P T,x with
 |some (_,t,_),.bA id ver [.arr] 0 0 len=>(IJ P s t X y).bind λm=>match s.obj id with
  |some (ve,false,.d (.arr n t') l)=> .guard ((ve==ver) && (len==n)) ((Out.opt (vF (.slice t') (.slice t) l)).bind λl=> .vi (decide (m.length<=n))
    (.ok ((s.bl id (.obj ve false (.d (.arr n t) (m++(l:List t.den).drop m.length)))).put dst (.d (.int .i64) (m.length:Int)))))
  |_=> .fail
 |_,_=> .fail
def jB(t:Ty)(s:AS):List (Nat×Operand)->List t.den->Out (List t.den×List Id)
 |[],l=> .ok (l,[])
 | (i,x)::ps,l=> .guard (decide (i < l.length)) ((s.jq t (s.ev x)).bind λy=>(jB t s ps (l.set i y)).bind λr=> .ok (r.1,(s.ev x).shared++r.2))
def qN(P:Program)(fs:Array Field)(s:AS):List (Nat×Operand)->aB->Out aB
 |[],v=> .ok v
 | (i,x)::ps,v=>match fs[i]?,partOf v i with
  |some f,some (o,bm)=> .guard ((f.offset==o) && fits P f.type bm && fits P f.type (s.ev x)) ((yy v (oz i) (s.ev x)).bind λv'=>qN P fs s ps v')
  |_,_=> .fail
def H0(P:Program)(s:AS)(dst:Option Tmp)(T:TypeId)(parts:List (Nat×Operand)):Out AS:=
 match P.underlying T with
 |some (.struct fs)=>match zeroOf P depth T with
  |some z=> .guard (ala P T z && z.agg && fs.toList.all λf=>(P.info? f.type).isSome)
    ((qN P fs s parts z).bind λv=> .ok (s.put dst v))
  |none=> .fail
 |some (.array n e)=>match ap9 P depth e with
  |some t=> .guard ((P.cellsOf e==t.size) && ala P T (.d (.arr n t) (ab n t.zero))) ((jB t s parts (ab n t.zero)).bind λr=> .ok ((s.bB r.2).put dst (.d (.arr n t) r.1)))
  |none=> .fail
 |_=> .fail
def mW(P:Program)(s:AS)(nl obj:Bool)(dst:Option Tmp)(T:TypeId)(n:Nat)(parts:List (Nat×Operand)):Out AS:=
 match FF P nl T,dst with
 |some (e,t,_),some q=> .guard (decide (n*t.size<=16777216)) ((jB t s parts (ab n t.zero)).bind λr=>
   match obj with
   |true=> .guard (s.dY q) (.ok (((s.bB r.2).born q [.obj 0 false (.vec e t r.1)]).put dst (.bA (.new q 0) 0 [] 0 0 r.1.length)))
   |false=> .ok ((s.bB r.2).put dst (.d (.slice t) r.1)))
 |_,_=> .fail
def tg(P:Program)(s:AS)(dst:Option Tmp)(T:TypeId)(len cap:Int):Out AS:=
 match XR P T,dst with
 |some (e,t,b),some q=> .guard (s.dY q) (.vi (decide (0<=len/\len<=cap) && db cap.toNat b)
   (.ok ((s.born q [.obj 0 false (.vec e t (ab len.toNat t.zero))]).put dst (.bA (.new q 0) 0 [] 0 0 len.toNat))))
 |_,_=> .fail
def aMA(P:Program)(T:TypeId):Bool:=
 match P.underlying T with
 |some (.struct fs)=>fs.toList.any λf=>match P.underlying f.type with | some (.pointer u)=>decide (u=T) | _=>false
 |_=>false
def boxed(P:Program)(T:TypeId)(z:aB):aB:=match aMA P T with | true=> .bx T 0 z | false=>z
def aOl(dt:Bool)(t:Ty)(x:t.den):aB:=match dt with | true=> .d (.uH t) (some x) | false=> .dO t x
def alV(P:Program)(s:AS)(obj dt:Bool)(dst:Option Tmp)(T:TypeId)(v:aB):Out AS:=
 match dst with
 |some q=>match obj with
  |true=> .guard (s.dY q && fits P T v) (.ok ((s.born q [.obj 0 false v]).put dst (.ptr (.new q 0) 0 [] 0)))
  |false=>match ap9 P depth T with
   |some t=> .guard (fits P T (.d t t.zero)) ((s.jq t v).bind λx=> .ok ((s.bB v.shared).put dst (aOl dt t x)))
   |none=> .fail
 |none=> .fail
def OW(P:Program)(s:AS)(dst:Option Tmp)(T:TypeId)(x:aB):Out AS:=
 match P.underlying T with
 |some (.array n e)=>match ap9 P depth e with
  |some t=> .guard ((P.cellsOf e==t.size) && !(n==0) && !(t.size==0)) ((s.jq (.slice t) x).bind λl=> .vi (decide (n<=(l:List t.den).length)) (.ok ((s.bB x.shared).put dst (.dO (.arr n t) (l.take n)))))
  |none=> .fail
 |_=> .fail
def sT(s:AS):List Operand->aB
 |[]=> .nil
 |x::xs=> .cons (s.ev x) (sT s xs)
def AI:aB->Bool
 | .cons a b=>a.eQ && AI b
 | .nil=>true
 |_=>false
def awn(c a b:aB):Out aB:=
 match c with
 | .d .bool c=>match a,b with
  | .d .bool x,.d .bool y=> .ok (.d .bool (bif c then x else y))
  |a,b=> .br c (.ok a) (.ok b)
 |_=> .fail
def isObj(bJ:List Nat):Option Tmp->Bool
 |some q=>bJ.any λx=>decide (x=q)
 |none=>false
def ay5(bJ:List Nat)(dst:Option Tmp):Bool:=isObj bJ (dst.map (· +100000))
def asj(bJ:List Nat)(dst:Option Tmp):Bool:=isObj bJ (dst.map (· +200000))
def rj:(t:Ty)->aB->Out t.den
 |t,.d t' x=>Out.opt (vF t' t x)
 | .slice _,.de=> .ok []
 | .pair a b,.pr x y=>(rj a x).bind λx=>(rj b y).bind λy=> .ok (x,y)
 |_,_=> .fail
def mapOf(P:Program)(T:TypeId):Option (TypeId×TypeId×Ty×Ty):=
 match P.underlying T with
 |some (.map K V)=>match ap9 P depth K,ap9 P depth V with
  |some kt,some vt=>match tx P depth K kt && ala P V (.d vt vt.zero) with | true=>some (K,V,kt,vt) | false=>none
  |_,_=>none
 |_=>none
def iT{β:Type}(kt:Ty)(x:kt.den):List (kt.den×β)->Option Nat
 |[]=>none
 |p::l=>match kt.beq x p.1 with | true=>some 0 | false=>(iT kt x l).map (· +1)
def bN{β:Type}(kt:Ty)(x:kt.den)(l:List (kt.den×β)):Option β:=(iT kt x l).bind λi=>(l[i]?).map (·.2)
def eG{β:Type}(kt:Ty)(x:kt.den)(v:β)(l:List (kt.den×β)):List (kt.den×β):=
 match iT kt x l with | some i=>l.set i (x,v) | none=>l++ [(x,v)]
def gY{β:Type}(kt:Ty)(x:kt.den)(l:List (kt.den×β)):List (kt.den×β):=
 match iT kt x l with | some i=>l.eraseIdx i | none=>l
def arh(k v k' v':Ty)(l:List (k.den×v.den)):Option (List (k'.den×v'.den)):=if h:k=k'/\v=v' then some (h.1▸h.2▸l) else none
def AS.uQ(s:AS)(id:Id)(ver:Nat)(kt vt:Ty):Out (List (kt.den×vt.den)):=
 match s.obj id with
 |some (v,_,.mp k' v' l)=> .guard (v==ver) (Out.opt (arh k' v' kt vt l))
 |_=> .fail
def AS.vg(s:AS)(id:Id):Bool:=match s.obj id with | some (_,fr,_)=> !fr | none=>false
def aNJ(vt:Ty)(ok:Bool)(r:Option vt.den):aB:=
 match ok with
 |true=> .cons (.d vt (r.getD vt.zero)) (.cons (.d .bool r.isSome) .nil)
 |false=> .d vt (r.getD vt.zero)
def II(P:Program)(s:AS)(dst:Option Tmp)(T:TypeId):Out AS:=
 match mapOf P T,dst with
 |some (_,_,kt,vt),some q=> .guard (s.dY q) (.ok ((s.born q [.obj 0 false (.mp kt vt [])]).put dst (.cj (.new q 0) 0)))
 |_,_=> .fail
def FT(P:Program)(s:AS)(T:TypeId)(m k:aB)(ok:Bool):Out aB:=
 match mapOf P T,m with
 |some (_,_,kt,vt),.cj id ver=>(s.uQ id ver kt vt).bind λl=>(rj kt k).bind λk=> .ok (aNJ vt ok (bN kt k l))
 |_,_=> .fail
def FY(P:Program)(s:AS)(T:TypeId)(m k v:aB):Out AS:=
 match mapOf P T,m with
 |some (_,_,kt,vt),.cj id ver=>(s.uQ id ver kt vt).bind λl=>(rj kt k).bind λk=>(rj vt v).bind λv=> .guard (s.vg id) (.ok (s.bl id (.obj ver false (.mp kt vt (eG kt k v l)))))
 |_,_=> .fail
def FX(P:Program)(s:AS)(T:TypeId)(m k:aB):Out AS:=
 match mapOf P T,m with
 |some (_,_,kt,vt),.cj id ver=>(s.uQ id ver kt vt).bind λl=>(rj kt k).bind λk=> .guard (s.vg id) (.ok (s.bl id (.obj ver false (.mp kt vt (gY kt k l)))))
 |_,_=> .fail
def AS.anM(s:AS)(id:Id)(ver:Nat):Bool:=match s.obj id with | some (v,true,.mp ..)=>v==ver | _=>false
def dE.aFJ(q:Id):dE->Bool
 | .obj _ _ (.tC q' ver _ _ _ _)=>decide (q'=q) && !(ver==0)
 |_=>false
def AS.ab2(s:AS)(q:Id):Bool:=s.bZ.any (dE.aFJ q) || s.news.any λes=>es.any (dE.aFJ q)
def zI(kt vt:Ty)(l:List (kt.den×vt.den))(j:Nat):kt.den×vt.den:=l.getD j (kt.zero,vt.zero)
def atr(P:Program)(s:AS)(dst:Option Tmp)(T:TypeId)(m:aB):Out AS:=
 match mapOf P T,m,dst with
 |some (_,_,kt,vt),.cj id ver,some q=>(s.uQ id ver kt vt).bind λl=> .guard (s.vg id && s.dY q)
   (.ok (((s.bl id (.obj ver true (.mp kt vt l))).born q [.obj 0 false (.tC id (ver+1) kt vt l none)]).put dst (.ptr (.new q 0) 0 [] 0)))
 |_,_,_=> .fail
structure aw1 where
 i:Id
 v:Nat
 fr:Bool
 q:Id
 vr:Nat
 kt:Ty
 vt:Ty
 rest:List (kt.den×vt.den)
 cur:Option (kt.den×vt.den)
def AS.aFI(s:AS)(x:aB):Option aw1:=
 match x with
 | .ptr i ver [] 0=>match s.obj i with
  |some (v,fr,.tC q (vr+1) kt vt rest cur)=>match v==ver,s.anM q vr with
   |true,true=>some ⟨i,v,fr,q,vr,kt,vt,rest,cur⟩
   |_,_=>none
  |_=>none
 |_=>none
def arO(s:AS)(x:aB):Out aB:=
 match s.aFI x with
 |some ⟨_,_,_,_,_,kt,vt,_,some c⟩=> .ok (.cons (.d kt c.1) (.cons (.d vt c.2) .nil))
 |_=> .fail
def AS.drawn(s:AS)(t:aw1)(dst:Option Tmp)(j:Nat):AS:=(s.bl t.i (.obj t.v t.fr (.tC t.q (t.vr+1) t.kt t.vt (t.rest.eraseIdx j) (some (zI t.kt t.vt t.rest j))))).put dst (.cons (.d .bool true) (.cons (.d t.kt (zI t.kt t.vt t.rest j).1) (.cons (.d t.vt (zI t.kt t.vt t.rest j).2) .nil)))
def AS.unlock(s:AS)(id:Id):AS:=match s.obj id with | some (v,_,c)=>s.bl id (.obj v false c) | none=>s
def AS.aL7(s:AS)(t:aw1)(dst:Option Tmp):Option AS:=
 match(s.bl t.i (.obj t.v t.fr (.tC t.q 0 t.kt t.vt [] none))).ab2 t.q with
 |false=>some (((s.bl t.i (.obj t.v t.fr (.tC t.q 0 t.kt t.vt [] none))).unlock t.q).put dst (.cons (.d .bool false) .nil))
 |true=>none
open Classical in
def aEt{R:Type}(n:Nat)(k:Nat->Option R):Option R:=if h:∃r,0 < n/\∀j,j < n->k j=some r then some h.choose else none
open Classical in
def ZG{X R:Type}(S:X->Prop)(k:X->Option R):Option R:=if h:∃r,(∃x,S x)/\∀x,S x->k x=some r then some h.choose else none
def aGu{R:Type}(s:AS)(dst:Option Tmp)(t:aw1)(k:AS->Option R):Option R:=
 aJ (decide (0 < t.rest.length)) (aEt t.rest.length λj=>k (s.drawn t dst j)) (match s.aL7 t dst with | some s'=>k s' | none=>none)
def AS.av1(s:AS)(ids:List Id):Bool:=ids.all λid=>(s.obj id).isSome && s.TK id
def AS.aEE{R:Type}(s:AS)(en:Entry)(dst:Option Tmp)(ids:List Id)(vs:List aB)(k:AS->Option R):Option R:=ZG (en.set (vs.map (aB.iV (s.xG ids))) (ids.map (s.mZ ids))) λx=>((en.sp x).bind λx=>s.back ids dst (en.out (vs.map (aB.iV (s.xG ids))) (ids.map (s.mZ ids)) x)).run k
def AS.al3{R:Type}(s:AS)(en:Entry)(dst:Option Tmp)(vs:List aB)(k:AS->Option R):Option R:=((s.conv en.params vs).bind λr=> .guard ((s.bB r.2).av1 ((s.bB r.2).agm r.1)) (.ok r)).run λr=>(s.bB r.2).aEE en dst ((s.bB r.2).agm r.1) r.1 k
def AS.aNg{R:Type}(s:AS)(en:Entry)(dst:Option Tmp)(vs:List aB)(k:AS->Option R):Option R:=
 match en.rel with | true=>s.al3 en dst vs k | false=>(s.call en dst vs).run k
def yB:Nat:=4294967296
def rh(P:Program)(Γ:oR)(bJ:List Nat)(o:Oper)(s:AS):Out AS:=
 match o.op with
 | .move x=> .ok (s.put o.dst (s.ev x))
 | .assign x=> .ok (s.put o.dst (s.ev x))
 | .pick c a b=>(awn (s.ev c) (s.ev a) (s.ev b)).bind λv=> .ok (s.put o.dst v)
 | .alloc T=>match zeroOf P depth T,o.dst with
  |some z,some q=> .guard (s.dY q && ala P T z) (.ok ((s.born q [.obj 0 false (boxed P T z)]).put o.dst (.ptr (.new q 0) 0 [] 0)))
  |_,_=> .fail
 | .box T x=>alV P s (isObj bJ o.dst) (asj bJ o.dst) o.dst T (s.ev x)
 | .build T parts=>H0 P s o.dst T parts.toList
 | .buildSlice T n parts=>mW P s (ay5 bJ o.dst) (isObj bJ o.dst) o.dst T n parts.toList
 | .load T x=>(QU P s T (s.ev x)).bind λv=> .ok (s.put o.dst v)
 | .store T x v=>(JK P s T (s.ev x) (s.ev v)).bind λs'=> .ok (s'.put o.dst .undef)
 | .nilCheck x=>match s.ev x with
  | .ptr id v p n=> .ok (s.put o.dst (.ptr id v p n))
  | .dO t y=> .ok (s.put o.dst (.dO t y))
  | .d (.uH t) y=> .get (y:Option t.den) λy=> .ok (s.put o.dst (.dO t y))
  | .fn f c=> .ok (s.put o.dst (.fn f c))
  |_=> .fail
 | .binOp op T x y _=>match s.ev x,s.ev y with
  | .ptr i v [] 0,.ptr j w [] 0=>(aQu P s T op i v j w).bind λv=> .ok (s.put o.dst v)
  |_,_=>(aOg P T op (s.ev x) (s.ev y)).bind λv=> .ok (s.put o.dst v)
 | .unOp op _ x=>(aTa op (s.ev x)).bind λv=> .ok (s.put o.dst v)
 | .convert src dst x=>match src==dst,s.ev x with
  |true,.bA id ver [] 0 0 len=>amm P s o.dst src dst id ver len
  |_,.ptr id ver [] 0=>(afN P s src dst id ver).bind λv=> .ok (s.put o.dst v)
  |_,_=>(afM P s (isObj bJ o.dst) src dst (s.ev x)).bind λv=> .ok (s.put o.dst v)
 | .sliceToArrayPointer T x=>OW P s o.dst T (s.ev x)
 | .makeFunc (.func f) first caps=> .guard (first.isEmpty && AI (sT s caps.toList)) (.ok (s.put o.dst (.fn f (sT s caps.toList))))
 | .makeSlice T l c=>(asInt (s.ev l)).bind λl=>(asInt (s.ev c)).bind λc=>tg P s o.dst T l c
 | .slice T x lo hi none=>(JG P s T (s.ev x) lo hi).bind λv=> .ok (s.put o.dst v)
 | .slice T x lo (some h) (some m)=>(RV P s T (s.ev x) lo h m).bind λv=> .ok (s.put o.dst v)
 | .fieldAddr T x f=>(FJ P T (s.ev x) f).bind λv=> .ok (s.put o.dst v)
 | .field T x f=>(aiP P T (s.ev x) f).bind λv=> .ok (s.put o.dst v)
 | .indexAddr T x i=>(asInt (s.ev i)).bind λi=>(tc P s T (s.ev x) i).bind λv=> .ok (s.put o.dst v)
 | .index T x i=>(asInt (s.ev i)).bind λi=>(aja P T (s.ev x) i).bind λv=> .ok (s.put o.dst v)
 | .extract x i=>(Out.opt ((s.ev x).list[i]?)).bind λv=> .ok (s.put o.dst v)
 | .makeMap T none=>II P s o.dst T
 | .lookup T x i ok=>(FT P s T (s.ev x) (s.ev i) ok).bind λv=> .ok (s.put o.dst v)
 | .mapUpdate T m k x=>(FY P s T (s.ev m) (s.ev k) (s.ev x)).bind λs'=> .ok (s'.put o.dst .undef)
 | .call c=>match c.callee with
  | .builtin .delete=>match c.args.toList,c.argTypes.toList with
   |[m,k],[T,_]=>(FX P s T (s.ev m) (s.ev k)).bind λs'=> .ok (s'.put o.dst .nil)
   |_,_=> .fail
  | .builtin .copy=>match c.args.toList,c.argTypes.toList with
   |[x,y],[T,X]=>Zl P s o.dst T X (s.ev x) (s.ev y)
   |_,_=> .fail
  | .builtin .len=>match c.args.toList,c.argTypes.toList with
   |[x],[T]=>(aLG P T (s.ev x)).bind λv=> .ok (s.put o.dst v)
   |_,_=> .fail
  | .builtin .append=>match c.args.toList,c.argTypes.toList with
   |[x,y],[T,X]=>match s.ev x,s.ev y with
    | .de,.d (.int _) n=>anb P s o.dst T X n
    |_,_=>yC P s (ay5 bJ o.dst) (asj bJ o.dst) o.dst T X (s.ev x) (s.ev y)
   |_,_=> .fail
  | .builtin .cap=>match c.args.toList,c.argTypes.toList with
   |[x],[T]=>match s.ev x,P.underlying T with
    | .de,some (.slice _)=> .ok (s.put o.dst (.d (.int .i64) (0:Int)))
    |_,_=> .fail
   |_,_=> .fail
  | .builtin .max=>(azv true (c.args.toList.map s.ev)).bind λv=> .ok (s.put o.dst v)
  | .builtin .min=>(azv false (c.args.toList.map s.ev)).bind λv=> .ok (s.put o.dst v)
  | .builtin .unsafeSliceData=>match c.args.toList with
   |[x]=>match s.ev x with
    | .bA id ver [] 0 0 len=> .vi (decide (0 < len)) (.ok (s.put o.dst (.ptr id ver [.idx 0] 0)))
    |_=> .fail
   |_=> .fail
  | .builtin .unsafeString=>match c.args.toList,c.argTypes.toList with
   |[x,y],[T,_]=>match s.ev x,s.ev y with
    | .ptr id ver [.idx 0] 0,.d (.int .i64) n=>apS P s o.dst T id ver n
    |_,_=> .fail
   |_,_=> .fail
  | .value f=>match s.ev f with
   | .fn f caps=>match Γ f (c.args.toList.map s.ev++caps.list) with
    |some en=> .guard (Nat.blt f yB) (s.call en o.dst (c.args.toList.map s.ev++caps.list))
    |none=> .fail
   |_=> .fail
  |_=> .fail
 |_=> .fail
def Yb(xs:Array Operand):List Nat:=xs.toList.filterMap λ | .tmp t=>some t | _=>none
def Tp(ops:Array Oper)(o:Oper):List Nat:=
 match o.guard with
 |some (j,_)=>match(ops[j]?).bind (·.dst) with | some t=> [t] | none=> []
 |none=> []
def aK2{R:Type}(P:Program)(Γ:oR)(bJ:List Nat)(ops:Array Oper)(o:Oper)(s:AS)(k:AS->Option R):Option R:=
 match o.guard with
 |none=>(rh P Γ bJ o s).run k
 |some (j,want)=>match(ops[j]?).bind (·.dst) with
  |some q=>match s.slot q with
   | .d .bool b=>match want with
    |true=>aJ b ((rh P Γ bJ o (s.put (some q) (.d .bool true))).run k) (k ((s.put (some q) (.d .bool false)).put o.dst .nil))
    |false=>aJ b (k ((s.put (some q) (.d .bool true)).put o.dst .nil)) ((rh P Γ bJ o (s.put (some q) (.d .bool false))).run k)
   | .nil=>k (s.put o.dst .nil)
   |_=>none
  |none=>none
def abe(s:AS)(x y:Operand):Option Nat:=
 match s.ev x,s.ev y with
 | .d (.slice t) l,.de=>some (l:List t.den).length
 | .de,.d (.slice t) l=>some (l:List t.den).length
 | .bA _ _ _ _ _ len,.de=>some len
 | .de,.bA _ _ _ _ _ len=>some len
 |_,_=>none
open Classical in
def nd{R:Type}(x y:Option R):Option R:=if x=y then x else none
def Wu:Code->List (Array Tmp×Code×Code)
 | .seq a b=>Wu a++Wu b
 | .cond _ a b=>Wu a++Wu b
 | .block _ b=>Wu b
 | .scope b=>Wu b
 | .loop b=>Wu b
 | .rangeFunc _ ps as b=> [(ps,as,b)]
 |_=> []
def aUM(fn:Func)(i y:Nat):vB:=match fn.body with
 |some c=>match(Wu c)[i]? with
  |some x=>⟨y,x.1,x.2.1,x.2.2⟩
  |none=>⟨y,#[],.skip,.skip⟩
 |none=>⟨y,#[],.skip,.skip⟩
def rk(P:Program)(y:Nat):vB:=match P.funcs[y%yB / 16]? with
 |some fn=>aUM fn (y%16) y
 |none=>⟨y,#[],.skip,.skip⟩
open Classical in
def same{R:Type}(c c':vB)(x:Option R):Option R:=if c=c' then x else none
def AS.yielded(s:AS)(F:aB)(n:Nat):Option (Id×Nat×vB×aB):=
 match F with
 | .yl id ver=>match s.obj id with
  |some (v,false,.rP c f 0)=>match v==ver && n==c.ps.size && Nat.ble yB c.y with
   |true=>some (id,ver,c,f)
   |false=>none
  |_=>none
 |_=>none
def aNV(Γ:oR)(F:aB)(vs:List aB):Option (Entry×List aB):=
 match F with
 | .fn f caps=>match Γ f (vs++caps.list) with
  |some en=>match en.rel && Nat.blt f yB with | true=>some (en,vs++caps.list) | false=>none
  |none=>none
 |_=>none
def aK3{R:Type}(P:Program)(Γ:oR)(bJ:List Nat)(ops:Array Oper)(o:Oper)(s:AS)(k:AS->Option R):Option R:=
 match o.guard,o.op with
 |none,.binOp .eql T x y _=>match abe s x y,BY.isSl P T with
  |some n,true=>aJ (decide (0 < n)) (k (s.put o.dst (.d .bool false))) (nd (k (s.put o.dst (.d .bool true))) (k (s.put o.dst (.d .bool false))))
  |_,_=>aK2 P Γ bJ ops o s k
 |none,.binOp .neq T x y _=>match abe s x y,BY.isSl P T with
  |some n,true=>aJ (decide (0 < n)) (k (s.put o.dst (.d .bool true))) (nd (k (s.put o.dst (.d .bool true))) (k (s.put o.dst (.d .bool false))))
  |_,_=>aK2 P Γ bJ ops o s k
 |none,.range T m=>(atr P s o.dst T (s.ev m)).run k
 |none,.entry x=>((arO s (s.ev x)).bind λv=> .ok (s.put o.dst v)).run k
 |none,.next x false=>match s.aFI (s.ev x) with
  |some t=>aGu s o.dst t k
  |none=>none
 |none,.call c=>match c.callee with
  | .value F=>match s.yielded (s.ev F) c.args.size with
   |some (id,ver,rc,f)=>match Γ rc.y (.yl id ver::(c.args.toList.map s.ev++f.list)) with
    |some en=>same rc (rk P rc.y) ((s.call en o.dst (.yl id ver::(c.args.toList.map s.ev++f.list))).run k)
    |none=>none
   |none=>match aNV Γ (s.ev F) (c.args.toList.map s.ev) with
    |some (en,vs)=>s.al3 en o.dst vs k
    |none=>aK2 P Γ bJ ops o s k
  |_=>aK2 P Γ bJ ops o s k
 |_,_=>aK2 P Γ bJ ops o s k
def seen{α R:Type}(l:List α):(List α->R)->R:=List.rec (motive:=λ_=>(List α->R)->R) (λk=>k []) (λx _ ih k=>ih λl'=>k (x::l')) l
theorem RM{α R:Type}:∀(l:List α) (k:List α->R),seen l k=k l
 |[],_=>rfl
 |_::l,k=>RM l _
def AS.seen{R:Type}(s:AS)(k:AS->R):R:=Go.Ab.seen s.ct λl=>k ⟨l,s.bZ,s.news⟩
theorem AS.RM{R:Type}(s:AS)(k:AS->R):s.seen k=k s:=Go.Ab.RM _ _
def aK4{R:Type}(P:Program)(Γ:oR)(bJ:List Nat)(ops:Array Oper):List Oper->AS->(AS->Option R)->Option R
 |[],s,k=>k s
 |o::l,s,k=>aK3 P Γ bJ ops o s λs'=>s'.seen λs'=>aK4 P Γ bJ ops l s' k
def ahG(acc:List Nat)(o:Oper):Nat:=(o.after.toList.filter (Region.binds .any)).foldr (λe m=>Nat.lor (Nat.lor (Nat.pow 2 e.on) (acc.getD e.on 0)) m) 0
def alv(ops:List Oper):List Nat:=ops.foldl (λacc o=>acc++ [ahG acc o]) []
structure HN where
 dst:Option Tmp
 ct:List Nat
 rs:List Id
 ws:List Id
def agq:Op->Bool
 | .move _=>true
 |_=>false
def aog(s:AS)(o:Oper):List Id:=match agq o.op with | true=> [] | false=>(Yb o.op.operands).flatMap λi=>(s.slot i).ids
def wE:List (Option Ty)->List aB->List Id
 |none::ps,v::vs=>v.ids++wE ps vs
 |some _::ps,_::vs=>wE ps vs
 |_,_=> []
def writes(Γ:oR)(s:AS)(o:Oper):List Id:=
 match o.op with
 | .store _ x _=>(s.ev x).ids
 | .mapUpdate _ m _ _=>(s.ev m).ids
 | .convert src dst x=>match src==dst with | true=>(s.ev x).ids | false=> []
 | .call c=>match c.callee with
  | .builtin .append=>match c.args.toList with | x::_=>(s.ev x).ids | []=> []
  | .builtin .delete=>match c.args.toList with | x::_=>(s.ev x).ids | []=> []
  | .builtin .copy=>match c.args.toList with | x::_=>(s.ev x).ids | []=> []
  | .builtin .unsafeString=>match c.args.toList with | x::_=>(s.ev x).ids | []=> []
  | .value F=>match s.ev F with
   | .fn f caps=>match Γ f (c.args.toList.map s.ev++caps.list) with
    |some en=>s.reach 64 (wE en.params (c.args.toList.map s.ev++caps.list)) []
    |none=> []
   |_=> []
  |_=> []
 |_=> []
def gV(Γ:oR)(ops:Array Oper)(s:AS)(o:Oper):HN:= {dst:=o.dst,ct:=Yb o.op.operands++Tp ops o,rs:=aog s o++writes Γ s o,ws:=writes Γ s o}
def meets(xs ys:List Id):Bool:=xs.any λx=>ys.any λy=>decide (x=y)
def HN.aRD(f g:HN):Bool:=
 match f.dst with
 |some t=>(g.ct.any λx=>decide (x=t)) || decide (g.dst=some t)
 |none=>false
def acE(d:Option Tmp)(ids:List Id):Bool:=
 match d with
 |some q=>ids.any λx=>match x with | .new i _=>decide (i=q) | .bm _=>false
 |none=>false
def HN.indep(f g:HN):Bool:= !f.aRD g && !g.aRD f && !meets f.ws g.rs && !meets g.ws f.rs && !acE f.dst g.rs && !acE g.dst f.rs
def af6{R:Type}(P:Program)(Γ:oR)(bJ:List Nat)(ops:Array Oper)(anc:List Nat):Nat->List Oper->List (Nat×HN)->AS->(AS->Option R)->Option R
 |_,[],_,s,k=>k s
 |i,o::l,fs,s,k=>
  match fs.all λx=>(anc.getD i 0).testBit x.1 || x.2.indep (gV Γ ops s o) with
  |true=>aK2 P Γ bJ ops o s λs'=>s'.seen λs'=>af6 P Γ bJ ops anc (i+1) l ((i,gV Γ ops s o)::fs) s' k
  |false=>none
def aiD(ops:List Oper):Bool:=ops.zipIdx.all λx=>x.1.after.toList.all λe=> !Region.binds .any e || decide (e.on < x.2)
structure aCp where
 j:Nat
 p:List La
 q:Nat
 T:TypeId
structure aSF where
 j:Nat
 p:List La
 t:Ty
structure oJ where
 aV:List Nat:=[]
 sites:List Nat:=[]
 avH:List Id:=[]
 data:List (Nat×Ty):=[]
 owns:List aCp:=[]
 NF:List aSF:=[]
 aS0:List Nat:=[]
 aOr:List Id:=[]
 aVj:List Nat:=[]
 aV1:List Nat:=[]
 aq9:List (Nat×Nat):=[]
 aK1:Option Nat:=none
structure dz where
 X:Type
 run:AS->Option X
 out:X->Out (Exit×AS)
 set:Option (AS->X->Prop):=none
structure rr where
 an:oJ
 X:Type
 ay4:Exit->AS->Option X
 out:X->Out (Exit×AS)
 ok:∀e s x,ay4 e s=some x->(out x).eval=some (e,s)
structure xi where
 bJ:List Nat:=[]
 loops:Nat->oJ:=λ_=> {}
 outs:Nat->Bool->oJ:=λ_ _=> {}
 fF:Nat->Option dz:=λ_=>none
 owns:List aCp:=[]
 trim:List Nat:=[]
 res:List (Option Ty):=[]
 NF:List aSF:=[]
 aNI:Nat->Option rr:=λ_=>none
 avW:Nat->Option rr:=λ_=>none
 rf:Nat->Option (Nat×List Nat):=λ_=>none
 aVS:Nat->Option (List aCp):=λ_=>none
 mf:Option Nat:=none
 aq9:List (Nat×Nat):=[]
def dL:Code->Nat
 | .region id _ _=>id
 | .seq a _=>dL a
 | .block _ b=>dL b
 | .loop b=>dL b
 | .scope b=>dL b
 | .cond _ a b=>match dL a with | 0=>dL b | n=>n
 |_=>0
def eI(aV:List Nat):Nat->List aB->List aB
 |_,[]=> []
 |i,v::vs=>(match aV.any (λx=>decide (x=i)) with | true=>v | false=> .undef)::eI aV (i+1) vs
def oA(aV:List Nat):Nat->List (List dE)->List (List dE)
 |_,[]=> []
 |i,v::vs=>(match aV.any (λx=>decide (x=i)) with | true=>v | false=> [])::oA aV (i+1) vs
def aB.head:aB->Option (Id×Nat)
 | .bA id ver [] 0 0 _=>some (id,ver)
 | .ptr id ver [] 0=>some (id,ver)
 |_=>none
def Rs(es:List dE)(b q:Nat)(i:Id)(ver:Nat):Option (Id×Nat):=
 match i with
 | .bm k=>some (.bm k,ver)
 | .new x j=>match decide (x=b) with
  |true=>(match es[j]? with | some (.obj v _ _)=>(match ver==v with | true=>some (.new q j,0) | false=>none) | _=>none)
  |false=>(match decide (x=q) with | true=>none | false=>some (.new x j,ver))
def dE.atz(ρ:Id->Nat->Option (Id×Nat)):dE->dE
 | .obj _ fr c=> .obj 0 fr (c.iV ρ)
 | .dead=> .dead
def aB.aAG(ρ:Id->Nat->Option (Id×Nat))(kp:Id->Bool):aB->aB
 | .tC q ver k v rest cur=>match kp q with | true=> .tC q ver k v rest cur | false=> .tC q 0 k v rest cur
 |c=>c.iV ρ
def dE.aeC(ρ:Id->Nat->Option (Id×Nat))(kp:Id->Bool):dE->dE
 | .obj v fr c=> .obj v fr (c.aAG ρ kp)
 | .dead=> .dead
def KK(b q:Nat):Id->Bool | .bm _=>true | .new x _=> !decide (x=b) && !decide (x=q)
def AS.Jq(s:AS)(b q:Nat)(es:List dE):AS:= {ct:=s.ct.map (aB.iV (Rs es b q)),bZ:=s.bZ.map (dE.aeC (Rs es b q) (KK b q)),news:=((s.news.map λes'=>es'.map (dE.aeC (Rs es b q) (KK b q))).set b []).set q (es.map (dE.atz (Rs es b q)))}
def AS.at(s:AS)(j:Nat):List La->Out aB
 |[]=> .ok (s.slot j)
 |p=>match s.slot j with
  | .ptr id ver p0 _=>match s.obj id with
   |some (v,_,c)=> .guard (v==ver) ((loc c.strip (p0++p)).bind λr=> .ok r.2)
   |none=> .fail
  |_=> .fail
def AS.putAt(s:AS)(j:Nat)(v:aB):List La->Out AS
 |[]=> .ok (s.put (some j) v)
 |p=>match s.slot j with
  | .ptr id _ p0 _=>match s.obj id with
   |some (ver,fr,c)=>match c.strip with
    | .vec .. => .fail
    |c1=>(yy c1 (p0++p) v).bind λc'=> .ok (s.bl id (.obj ver fr (c.wrap c')))
   |none=> .fail
  |_=> .fail
def AS.still(s:AS):List Nat->AS
 |[]=>s
 |q::l=>(match s.obj (.new q 0) with | some (v,fr,.tC i ver k t r _)=>s.bl (.new q 0) (.obj v fr (.tC i ver k t r none)) | _=>s).still l
def agJ(α:Type):Setoid (List α):=⟨List.Perm,im,List.Perm.symm,List.Perm.trans⟩
def ja{α:Type}(l:List α):List α:=(re (Quotient.mk (agJ α) l)).choose
def AS.canon(s:AS):List Id->AS
 |[]=>s
 |id::l=>(match s.obj id with | some (v,fr,.mp k t r)=>s.bl id (.obj v fr (.mp k t (ja r))) | _=>s).canon l
def Vq(s:AS):List aSF->Out AS
 |[]=> .ok s
 |o::l=>match o.p,s.slot o.j with
  |_::_,.ri=>Vq s l
  |_,_=>(s.at o.j o.p).bind λu=>(s.jq o.t u).bind λx=>((s.bB u.shared).putAt o.j (.d o.t x) o.p).bind λs'=>Vq s' l
def Ql:(t:Ty)->t.den->Out aB
 | .ig t,x=> .vi (x:Option (List t.den)).isNone (.ok .de)
 | .pair a b,x=>(Ql a x.1).bind λu=>(Ql b x.2).bind λv=> .ok (Q1 u v)
 |t,x=> .ok (.d t x)
def ayA(s:AS):List Nat->Out AS
 |[]=> .ok s
 |j::l=>match s.slot j with
  | .ptr id ver (.idx k::p) n=>match s.obj id with
   |some (v,false,.vec e t r)=> .guard (v==ver) (.vi (decide (k < r.length)) ((Ql t (nth t r k)).bind λu=>
     ayA ((s.bl id (.obj v false (.bx e t.size (.pr (.d (.arr k t) (r.take k)) (.pr u (.d (.arr (r.drop (k+1)).length t) (r.drop (k+1)))))))).put (some j) (.ptr id ver (.snd:: .fst::p) n)) l))
   |_=> .fail
  | .ptr _ _ (.snd::_) _=>ayA s l
  |_=> .fail
def aIS(s:AS):List Nat->Out AS
 |[]=> .ok s
 |j::l=>match s.slot j with
  | .ptr id ver (.snd:: .fst::p) n=>match s.obj id with
   |some (v,false,.bx e z (.pr (.d (.arr k t) l1) (.pr u (.d (.arr _ t') l2))))=> .guard ((v==ver) && (z==t.size) && !(z==0) && !(u.shared.any λi=>decide (i=id)))
     ((Out.opt (vF (.slice t') (.slice t) l2)).bind λl2=>(s.jq t u).bind λx=>
      aIS (((s.bB u.shared).bl id (.obj v false (.vec e t (l1++x::l2)))).put (some j) (.ptr id ver (.idx k::p) n)) l)
   |_=> .fail
  |_=> .fail
def wO(P:Program)(s:AS):List aCp->Out AS
 |[]=> .ok s
 |o::l=>match o.p,s.slot o.j with
  |_::_,.ri=>wO P s l
  |_,_=>(s.at o.j o.p).bind λu=>match u with
  | .de=>match aiE P o.T,s.dY o.q with
   |some (e,t,_),true=>((s.born o.q [.obj 0 false (.vec e t [])]).putAt o.j (.bA (.new o.q 0) 0 [] 0 0 0) o.p).bind λs'=>wO P s' l
   |_,_=> .fail
  |u=>match u.head with
   |some (.new b j,ver)=>match s.obj (.new b j),decide (o.q < s.news.length) with
    |some (v,_,_),true=>match v==ver with
     |true=>wO P (s.Jq b o.q (s.news.getD b [])) l
     |false=> .fail
    |_,_=> .fail
   |_=> .fail
def ahn(s:AS):List Nat->Out AS
 |[]=> .ok s
 |j::l=>match s.slot j with
  | .bA id ver [] 0 0 len=>match s.obj id with
   |some (v,false,.vec e t r)=>match v==ver with
    |true=> .vi (decide (len<=r.length)) (ahn (s.bl id (.obj v false (.vec e t (r.take len)))) l)
    |false=> .fail
   |_=> .fail
  |_=> .fail
def asData(s:AS):List (Nat×Ty)->Out AS
 |[]=> .ok s
 | (j,t)::l=>(s.jq t (s.slot j)).bind λx=>asData ((s.bB (s.slot j).shared).put (some j) (.d t x)) l
def aB.there(s:AS):aB->Bool
 | .ptr id _ _ _=>(s.obj id).isSome
 | .bA id _ _ _ _ _=>(s.obj id).isSome
 | .pr a b=>a.there s && b.there s
 | .cons a b=>a.there s && b.there s
 | .fn _ c=>c.there s
 | .bx _ _ c=>c.there s
 | .cj id _=>(s.obj id).isSome
 | .yl id _=>(s.obj id).isSome
 | .rP _ f _=>f.there s
 | .tC .. =>false
 |_=>true
def dE.there(s:AS):dE->Bool
 | .obj _ _ (.tC id _ _ _ _ _)=>(s.obj id).isSome
 | .obj _ _ c=>c.there s
 | .dead=>true
def QL(an:oJ)(s:AS):AS:= {ct:=eI an.aV 0 s.ct,bZ:=s.bZ,news:=oA an.sites 0 s.news}
def AS.alq(s:AS):Bool:=(s.ct.all (aB.there s)) && (s.bZ.all (dE.there s)) && (s.news.all λes=>es.all (dE.there s))
def vn(k v n:Nat)(i:Id)(ver:Nat):Option (Id×Nat):=match i with
 | .bm j=>match iO j k with
  |true=>match iO ver v with | true=>some (.bm j,n) | false=>none
  |false=>some (.bm j,ver)
 |i=>some (i,ver)
def Ix(k:Nat):Id->Bool | .bm j=> !iO j k | _=>true
def dE.atA(ρ:Id->Nat->Option (Id×Nat))(kp:Id->Bool):dE->dE
 | .obj v fr c=> .obj v fr (c.aAG ρ kp)
 | .dead=> .dead
def AS.aDi(s:AS)(k n:Nat):Out AS:=match s.bW (.bm k) with
 |some (.obj v fr c)=> .guard (Nat.ble v n || Nat.ble 1 n) (.ok {ct:=s.ct.map (aB.iV (vn k v n)),bZ:=(s.bZ.map (dE.atA (vn k v n) (Ix k))).set k (.obj n fr (c.iV (vn k v n))),news:=s.news.map λes=>es.map (dE.atA (vn k v n) (Ix k))})
 |_=> .fail
def al1(s:AS):List (Nat×Nat)->Out AS
 |[]=> .ok s
 |x::l=>(s.aDi x.1 x.2).bind λs=>al1 s l
def AS.aRc(s:AS):List Id:=(s.reach 64 (s.ct.flatMap aB.ids++s.bZ.flatMap dE.ids) []).filter λid=>match id with | .new _ _=>true | .bm _=>false
def ayI(s:AS)(ids:List Id)(q:Nat):Id->Nat->Option (Id×Nat)
 | .bm k,ver=>some (.bm k,ver)
 | .new x y,ver=>match idxOf (.new x y) ids,s.obj (.new x y) with
  |some j,some (v,_,_)=>match ver==v with | true=>some (.new q j,0) | false=>none
  |_,_=>none
def dE.aHp(ρ:Id->Nat->Option (Id×Nat)):dE->dE
 | .obj v fr c=> .obj v fr (c.iV ρ)
 | .dead=> .dead
def AS.Ip(s:AS)(ids:List Id)(q:Nat):AS:= {ct:=s.ct.map (aB.iV (ayI s ids q)),bZ:=s.bZ.map (dE.aHp (ayI s ids q)),news:=(s.news.map λ_=> []).set q (ids.map λid=>((s.bW id).getD .dead).atz (ayI s ids q))}
def AS.aiU(s:AS):Option Nat->Out AS
 |none=> .ok s
 |some q=> .guard (Nat.blt q s.news.length) (.ok (s.Ip s.aRc q))
def norm(P:Program)(an:oJ)(s:AS):Out AS:=(al1 s an.aq9).bind λs=>(aIS (((s.bB an.avH).still an.aS0).canon an.aOr) an.aV1).bind λs=>(Vq s an.NF).bind λs=>(asData s an.data).bind λs=> .guard (QL an s).alq ((ayA (QL an s) an.aVj).bind λs=>(wO P s an.owns).bind λs=>s.aiU an.aK1)
def VQ{R:Type}(nrm:AS->Out AS)(nrmX:Exit->AS->Out AS)(body:AS->(Exit->AS->Option R)->Option R):Nat->AS->(Exit->AS->Option R)->Option R
 | 0,_,_=>none
 |n+1,s,k=>body s λe s'=>match e with
  | .normal=>(nrm s').run λs1=>VQ nrm nrmX body n s1 k
  |e=>(nrmX e s').run (k e)
def anC:Exit->Bool | .ret=>true | _=>false
def aIU{R:Type}(le:dz)(s:AS)(k:Exit->AS->Option R):Option R:=
 match le.set with
 |none=>al (le.run s) λx=>(le.out x).run λr=>k r.1 r.2
 |some S=>ZG (S s) λx=>(le.out x).run λr=>k r.1 r.2
def TF{R:Type}(P:Program)(j:Option rr)(run: {R:Type}->(Exit->AS->Option R)->Option R)(k:Exit->AS->Option R):Option R:=
 match j with
 |none=>run k
 |some j=>al (run λe s=>(norm P j.an s).run (j.ay4 e)) λx=>(j.out x).run λr=>k r.1 r.2
def mF:List aB->aB
 |[]=> .nil
 |a::l=> .cons a (mF l)
def ao1(P:Program)(h:FuncId):Bool:=match P.funcs[h]? with
 |some fn=> !(fn.name== "runtime.NumGoroutine") && fn.body.isSome
 |none=>false
def Gn{R:Type}(P:Program)(Γ:oR)(an:xi)(s:AS)(f:Operand)(ps:Array Tmp)(as b:Code)(k:Exit->AS->Option R):Option R:=
 match an.mf,an.rf (ps.getD 0 0),s.ev f with
 |none,some (y,aV),.fn h caps=>match ao1 P h && s.dY (ps.getD 0 0) && Nat.blt (ps.getD 0 0) s.ct.length && Nat.blt h yB,Γ h (.yl (.new (ps.getD 0 0) 0) 0::caps.list) with
  |true,some en=>((s.born (ps.getD 0 0) [.obj 0 false (.rP ⟨y,ps,as,b⟩ (mF (eI aV 0 s.ct)) 0)]).put (some (ps.getD 0 0)) (.yl (.new (ps.getD 0 0) 0) 0)).aNg en none (.yl (.new (ps.getD 0 0) 0) 0::caps.list) λs3=>
   match s3.bW (.new (ps.getD 0 0) 0),s3.slot (ps.getD 0 0) with
   |some (.obj 0 false (.rP _ _ p)),.yl (.new q' 0) 0=>match iO q' (ps.getD 0 0),p with
    |true,0=>k .normal ((s3.bl (.new (ps.getD 0 0) 0) .dead).put (some (ps.getD 0 0)) .undef)
    |true,2=>k .ret ((s3.bl (.new (ps.getD 0 0) 0) .dead).put (some (ps.getD 0 0)) .undef)
    |true,i+3=>k (.exit i) ((s3.bl (.new (ps.getD 0 0) 0) .dead).put (some (ps.getD 0 0)) .undef)
    |_,_=>none
   |_,_=>none
  |_,_=>none
 |_,_,_=>none
def ev(P:Program)(Γ:oR)(an:xi)(N:Nat):Code-> {R:Type}->AS->(Exit->AS->Option R)->Option R
 | .skip,_,s,k=>k .normal s
 | .region id ops draw,_,s,k=>TF P (an.aNI id) (λk=>match draw with
  |true=>(match aiD ops.toList with
   |true=>af6 P Γ an.bJ ops (alv ops.toList) 0 ops.toList [] s λs'=>k .normal s'
   |false=>none)
  |false=>aK4 P Γ an.bJ ops ops.toList s λs'=>k .normal s') k
 | .seq a b,_,s,k=>TF P (an.avW (dL b)) (λk=>ev P Γ an N a s k) λe s'=>match e with | .normal=>ev P Γ an N b s' k | e=>k e s'
 | .cond c x y,_,s,k=>match s.ev c with
  | .d .bool b=>aJ b (ev P Γ an N x s k) (ev P Γ an N y s k)
  |_=>none
 | .block id b,_,s,k=>ev P Γ an N b s λe s'=>match e with | .exit i=>(match decide (i=id) with | true=>k .normal s' | false=>k (.exit i) s') | e=>k e s'
 | .loop b,_,s,k=>(norm P (an.loops (dL b)) s).run λs1=>match an.fF (dL b) with
  |some le=>aIU le s1 k
  |none=>VQ (norm P (an.loops (dL b))) (λe=>norm P (an.outs (dL b) (anC e))) (ev P Γ an N b) N s1 k
 | .scope b,_,s,k=>ev P Γ an N b s λe s'=>match e with | .goto _=>none | e=>k e s'
 | .label _,_,s,k=>k .normal s
 | .exit id,_,s,k=>k (.exit id) s
 | .ret,_,s,k=>k .ret s
 | .rangeFunc f ps as b,_,s,k=>(wO P s ((an.aVS (ps.getD 0 0)).getD [])).run λs=>Gn P Γ an s f ps as b k
 |_,_,_,_=>none
def acb(P:Program)(s:AS):ResultVar->Out aB
 | .tmp t=> .ok (s.slot t)
 | .cell a T=>QU P s T (s.slot a)
def aca(P:Program)(s:AS)(r:ResultVar):Option Ty->Out (AS×aB)
 |none=>(acb P s r).bind λv=> .ok (s,v)
 |some t=>(acb P s r).bind λv=>(s.jq t v).bind λx=> .ok (s.bB v.shared,.d t x)
def Rv(P:Program)(s:AS):List ResultVar->List (Option Ty)->Out (AS×aB)
 |[],_=> .ok (s,.nil)
 |r::rs,ts=>(aca P s r (ts.headD none)).bind λx=> .guard x.2.eQ ((Rv P x.1 rs ts.tail).bind λy=> .ok (y.1,.cons x.2 y.2))
def akc(P:Program)(fn:Func)(ts:List (Option Ty))(s:AS):Out (AS×aB):=
 match fn.results.toList with
 |[r]=>aca P s r (ts.headD none)
 |rs=>Rv P s rs ts
def jJ:Code->List Code
 | .seq a b=>jJ a++jJ b
 | .cond _ a b=>jJ a++jJ b
 | .block _ b=>jJ b
 | .scope b=>jJ b
 | .loop b=>b::jJ b
 |_=> []
def pv(fn:Func)(i:Nat):Code:=match fn.body with | some c=>(jJ c).getD i .skip | none=> .skip
def Dc(P:Program)(Γ:oR)(an:xi)(N:Nat)(fn:Func)(i:Nat){R:Type}(s:AS)(kn:AS->Option R)(kx:Exit->AS->Option R):Option R:=
 ev P Γ an N (pv fn i) s λe s'=>match e with
  | .normal=>(norm P (an.loops (dL (pv fn i))) s').run kn
  |e=>(norm P (an.outs (dL (pv fn i)) (anC e)) s').run (kx e)
def QY(P:Program)(Γ:oR)(an:xi)(N:Nat)(fn:Func)(i:Nat){R:Type}(n:Nat)(s:AS)(k:Exit->AS->Option R):Option R:=VQ (norm P (an.loops (dL (pv fn i)))) (λe=>norm P (an.outs (dL (pv fn i)) (anC e))) (ev P Γ an N (pv fn i)) n s k
def Id.aNG:Id->Bool | .new _ _=>true | .bm _=>false
def AS.Tl(s:AS)(v:aB):List Id:=(s.reach 64 (v.ids++s.bZ.flatMap dE.ids) []).filter Id.aNG
def NR(ids:List Id):Id->Nat->Option (Id×Nat)
 | .bm k,v=>some (.bm k,v)
 |id,v=>match idxOf id ids with | some j=>some (.new 0 j,v) | none=>none
def dE.fin(ids:List Id):dE->dE
 | .obj v fr c=> .obj v fr (c.iV (NR ids))
 | .dead=> .dead
def AS.aNj(s:AS)(ids:List Id)(v:aB):fK:= {val:=v.iV (NR ids),bZ:=s.bZ.map (dE.fin ids),news:=ids.map λid=>((s.bW id).getD .dead).fin ids}
def AS.fin(s:AS)(v:aB):fK:=s.aNj (s.Tl v) v
def start(fn:Func)(args:List aB)(bZ:List dE):AS:= {ct:=args++ab (fn.ntmps - args.length) .undef,bZ,news:=ab fn.ntmps []}
def aHr(fn:Func):List Nat:=fn.results.toList.map λr=>match r with | .tmp t=>t | .cell a _=>a
def AS.drop(s:AS)(ks:List Nat):AS:= {ct:=eI ks 0 s.ct,bZ:=s.bZ,news:=s.news}
def finish(P:Program)(an:xi)(fn:Func)(s:AS):Out fK:=(Vq s an.NF).bind λs=>(wO P (s.drop (aHr fn)) an.owns).bind λs=>(ahn s an.trim).bind λs=>(al1 s an.aq9).bind λs=>(akc P fn an.res s).bind λr=> .ok (r.1.fin r.2)
def aNc(P:Program)(y:Nat):Func:= {(default:Func) with body:=some (.seq (rk P y).as (rk P y).b)}
def AS.T4(s:AS)(q p:Nat):Option AS:=match s.bW (.bm 0) with
 |some (.obj 0 false (.rP c f q'))=>(match iO q q' with | true=>some (s.bl (.bm 0) (.obj 0 false (.rP c f p))) | false=>none)
 |_=>none
def zW:List (Tmp×aB)->List aB->List aB
 |[],l=>l
 |x::xs,l=>zW xs (l.set x.1 x.2)
def acM(ps:List Tmp)(args:List aB)(bZ:List dE):AS:= {ct:=zW (ps.zip (args.take ps.length)) (args.drop ps.length),bZ,news:=ab (args.drop ps.length).length []}
def aNi:Exit->Option Nat
 | .normal=>some 0
 | .ret=>some 2
 | .exit i=>some (i+3)
 |_=>none
def avF(P:Program)(an:xi)(s:AS)(v:aB):Out fK:=(Vq s an.NF).bind λs=>(wO P (s.drop []) an.owns).bind λs=>(ahn s an.trim).bind λs=>(al1 s an.aq9).bind λs=> .ok (s.fin v)
def dE.first:dE->Bool
 | .obj v _ _=>iO v 0
 | .dead=>true
def aHK(P:Program)(Γ:oR)(an:xi)(N:Nat)(c:vB)(args:List aB)(bZ:List dE){R:Type}(k:fK->Option R):Option R:=
 match args with
 | .yl (.bm 0) 0::args=>match bZ.all dE.first with | false=>none | true=>ev P Γ an N c.as (acM c.ps.toList args bZ) λe s=>match e with
  | .normal=>al (s.T4 0 1) λs=>ev P Γ an N c.b s λe s=>al (aNi e) λp=>al (s.T4 1 p) λs=>(avF P an s (.d .bool (iO p 0))).run k
  |_=>none
 |_=>none
def alB(P:Program)(Γ:oR)(an:xi)(N:Nat)(fn:Func)(args:List aB)(bZ:List dE){R:Type}(k:fK->Option R):Option R:=
 match an.mf with
 |some y=>aHK P Γ an N (rk P y) args bZ k
 |none=>match fn.body with
 |some c=>match bZ.all dE.first with | false=>none | true=>ev P Γ an N c (start fn args bZ) λe s=>match e with
  | .normal=>(finish P an fn s).run k
  | .ret=>(finish P an fn s).run k
  |_=>none
 |none=>none
end Go.Ab
namespace Go.Ab
inductive Own where
 |eo
 |id (i:Id)
inductive mz where
 |free
 |own (o:Own) (k:Nat)
structure Pl where
 b:Nat
 cap:Nat
structure Env where
 w:World
 g:Nat->mz
 β:Id->Option Pl
 s:Id->Option dE
def vk(g:Nat->mz)(b off:Nat):Prop:=match g b with | .free=>True | .own _ k=>off < k
def Env.has(E:Env)(b off:Nat)(v:Value):Prop:=E.w.cell? ⟨b,off,none⟩=some v/\vk E.g b off
def bD{α:Type}(R:List Value->α->Prop):List Value->List α->Prop
 |cs,[]=>cs=[]
 |cs,x::xs=>∃c cs',cs=c++cs'/\R c x/\bD R cs' xs
def GW(E:Env)(a:Option Addr)(vs:List Value):Prop:=∀i v,vs[i]? =some v->∃b off,a=some ⟨b,off,none⟩/\E.has b (off+i) v
def df(E:Env):(t:Ty)->List Value->t.den->Prop
 | .int k,cs,x=>cs=[.int k x]
 | .bool,cs,x=>cs=[.bool x]
 | .str,cs,x=>cs=[.string x]
 | .slice t,cs,l=>∃a cap vs,cs=[.slice a (l:List t.den).length cap]/\(l:List t.den).length<=cap/\(0 < (l:List t.den).length->a.isSome=true)/\GW E a vs/\bD (df E t) vs l
 | .unit,cs,_=>cs=[]
 | .pair a b,cs,x=>∃ca cb,cs=ca++cb/\df E a ca x.1/\df E b cb x.2
 | .arr n t,cs,l=>(l:List t.den).length=n/\bD (df E t) cs l
 | .ig t,cs,x=>((x:Option (List t.den))=none->cs=[.slice none 0 0])/\∀l:List t.den,(x:Option (List t.den))=some l->
   ∃a cap vs,cs=[.slice a l.length cap]/\l.length<=cap/\(0 < l.length->a.isSome=true)/\GW E a vs/\bD (df E t) vs l
 | .uH t,cs,x=>((x:Option t.den)=none->cs=[.pointer none])/\∀y:t.den,(x:Option t.den)=some y->
   ∃b off vs,cs=[.pointer (some ⟨b,off,none⟩)]/\GW E (some ⟨b,off,none⟩) vs/\df E t vs y
section
variable {α:Type} {R R':List Value->α->Prop} {z:Nat}
theorem bD.mono(h:∀c x,R c x->R' c x):∀ {cs:List Value} {l:List α},bD R cs l->bD R' cs l
 |_,[],hc=>hc
 |_,_::_,⟨c,cs',e,hx,hr⟩=>⟨c,cs',e,h _ _ hx,bD.mono h hr⟩
theorem bD.length(h:∀c x,R c x->c.length=z):∀ {cs:List Value} {l:List α},bD R cs l->cs.length=l.length*z
 |cs,[],hc=>by have:cs=[]:=hc;simp[this]
 |_,x::xs,⟨c,cs',e,hx,hr⟩=>by rw[e,ai,h c x hx,bD.length h hr,aA,eE,iE,Nat.add_comm]
theorem bD.all{p:Value->Prop}(h:∀c x,R c x->∀v∈c,p v):∀ {cs:List Value} {l:List α},bD R cs l->∀v∈cs,p v
 |cs,[],hc,v,hv=>by have:cs=[]:=hc;simp[this]at hv
 |_,_::_,⟨c,cs',e,hx,hr⟩,v,hv=>by
  rw[e]at hv;rcases bz.1 hv with hv | hv
  ·exact h _ _ hx v hv
  ·exact bD.all h hr v hv
theorem bD.append:∀ {cs:List Value} {l:List α} {cs':List Value} {l':List α},bD R cs l->bD R cs' l'->bD R (cs++cs') (l++l')
 |cs,[],_,_,hc,h'=>by have:cs=[]:=hc;simpa[this]using h'
 |_,x::xs,_,_,⟨c,cs1,e,hx,hr⟩,h'=>⟨c,cs1++_,by rw[e,aF],hx,bD.append hr h'⟩
theorem bD.take(h:∀c x,R c x->c.length=z):∀ {cs:List Value} {l:List α} (n:Nat),bD R cs l->bD R (cs.take (n*z)) (l.take n)
 |cs,[],n,hc=>by have:cs=[]:=hc;simp[this,bD]
 |_,x::xs,0,_=>by simp[bD]
 |_,x::xs,n+1,⟨c,cs',e,hx,hr⟩=>by refine⟨c,cs'.take (n*z),?_,hx,bD.take h n hr⟩;rw[e,qi,h c x hx,eE,iE,aY (by rw[h c x hx];omega),iX]
theorem bD.drop(h:∀c x,R c x->c.length=z):∀ {cs:List Value} {l:List α} (n:Nat),bD R cs l->bD R (cs.drop (n*z)) (l.drop n)
 |cs,[],n,hc=>by have:cs=[]:=hc;simp[this,bD]
 |_,x::xs,0,hc=>by simpa using hc
 |_,x::xs,n+1,⟨c,cs',e,hx,hr⟩=>by rw[e,ka,h c x hx,eE,iE,dZ (by rw[h c x hx];omega),iX];simpa using bD.drop h n hr
theorem bD.get(h:∀c x,R c x->c.length=z){cs:List Value}{l:List α}(hc:bD R cs l)(i:Nat)(hi:i < l.length):R ((cs.drop (i*z)).take z) l[i]:=by have h1:=bD.take h 1 (bD.drop h i hc);rw[aq hi]at h1;simp only[iE,List.take_succ_cons,dH]at h1;obtain⟨c,cs',e,hx,hr⟩:=h1;have:cs'=[]:=hr;rw[e,this,aZ];exact hx
theorem bD.set(h:∀c x,R c x->c.length=z){cs:List Value}{l:List α}(hc:bD R cs l)(i:Nat)(hi:i < l.length){c:List Value}{x:α}(hx:R c x):
  bD R (cs.take (i*z)++c++cs.drop (i*z+c.length)) (l.set i x):=by
 rw[List.set_eq_take_append_cons_drop,if_pos hi,h c x hx];have h1:=bD.take h i hc;have h2:=bD.drop h (i+1) hc;rw[eE,iE]at h2;have h3:bD R (c++cs.drop (i*z+z)) (x::l.drop (i+1)):=⟨c,_,rfl,hx,h2⟩;rw[aF];exact bD.append h1 h3
theorem bD.one{c:List Value}{x:α}(h:R c x):bD R c [x]:=⟨c,[],by simp,h,rfl⟩
end
theorem df.size{E:Env}:∀ {t:Ty} {cs:List Value} {x:t.den},df E t cs x->cs.length=t.size
 | .int _,_,_,h=>by simp only[df]at h;simp[h,Ty.size]
 | .bool,_,_,h=>by simp only[df]at h;simp[h,Ty.size]
 | .str,_,_,h=>by simp only[df]at h;simp[h,Ty.size]
 | .slice t,_,_,h=>by simp only[df]at h;obtain⟨a,cap,vs,rfl,_⟩:=h;simp[Ty.size]
 | .unit,_,_,h=>by simp only[df]at h;simp[h,Ty.size]
 | .pair a b,_,_,h=>by simp only[df]at h;obtain⟨ca,cb,rfl,ha,hb⟩:=h;simp[Ty.size,df.size ha,df.size hb]
 | .arr n t,_,_,h=>by simp only[df]at h;rw[bD.length (λc x hx=>df.size hx) h.2,h.1,Ty.size]
 | .ig t,_,x,h=>by
  simp only[df]at h;obtain⟨h1,h2⟩:=h;cases hx:(x:Option (List t.den)) with
  |none=>rw[h1 hx];rfl
  |some l=>obtain⟨a,cap,vs,rfl,_⟩:=h2 l hx;rfl
 | .uH t,_,x,h=>by
  simp only[df]at h;obtain⟨h1,h2⟩:=h;cases hx:(x:Option t.den) with
  |none=>rw[h1 hx];rfl
  |some l=>obtain⟨b,off,vs,rfl,_⟩:=h2 l hx;rfl
theorem df.one{E:Env}:∀ {t:Ty} {cs:List Value} {x:t.den},df E t cs x->∀c∈cs,c.oneCell'=true
 | .int _,_,_,h=>by simp only[df]at h;simp[h,Value.oneCell']
 | .bool,_,_,h=>by simp only[df]at h;simp[h,Value.oneCell']
 | .str,_,_,h=>by simp only[df]at h;simp[h,Value.oneCell']
 | .slice t,_,_,h=>by simp only[df]at h;obtain⟨a,cap,vs,rfl,_⟩:=h;simp[Value.oneCell']
 | .unit,_,_,h=>by simp only[df]at h;simp[h]
 | .pair a b,_,_,h=>by
  simp only[df]at h;obtain⟨ca,cb,rfl,ha,hb⟩:=h;intro c hc;rcases bz.1 hc with hc | hc
  ·exact df.one ha c hc
  ·exact df.one hb c hc
 | .arr n t,_,_,h=>by simp only[df]at h;exact bD.all (λc x hx=>df.one hx) h.2
 | .ig t,_,x,h=>by
  simp only[df]at h;obtain⟨h1,h2⟩:=h;cases hx:(x:Option (List t.den)) with
  |none=>rw[h1 hx];simp[Value.oneCell']
  |some l=>obtain⟨a,cap,vs,rfl,_⟩:=h2 l hx;simp[Value.oneCell']
 | .uH t,_,x,h=>by
  simp only[df]at h;obtain⟨h1,h2⟩:=h;cases hx:(x:Option t.den) with
  |none=>rw[h1 hx];simp[Value.oneCell']
  |some l=>obtain⟨b,off,vs,rfl,_⟩:=h2 l hx;simp[Value.oneCell']
structure uf(E E':Env):Prop where
 has:∀b off v,E.has b off v->E'.has b off v
 fz:∀b ob,E.g b= .free->E.w.heap[b]? =some ob->E'.g b= .free/\E'.w.heap[b]? =some ob
theorem uf.refl(E:Env):uf E E:=⟨λ_ _ _ h=>h,λ_ _ h h'=>⟨h,h'⟩⟩
theorem uf.trans{E E' E'':Env}(h:uf E E')(h':uf E' E''):uf E E'':=⟨λb o v x=>h'.has b o v (h.has b o v x),λb ob h1 h2=>let⟨h3,h4⟩:=h.fz b ob h1 h2;h'.fz b ob h3 h4⟩
theorem GW.mono{E E':Env}(h:uf E E'){a:Option Addr}{vs:List Value}(hr:GW E a vs):GW E' a vs:=
 λi v hv=>let⟨b,off,ha,hh⟩:=hr i v hv;⟨b,off,ha,h.has _ _ _ hh⟩
theorem df.mono{E E':Env}(hm:uf E E'):∀ {t:Ty} {cs:List Value} {x:t.den},df E t cs x->df E' t cs x
 | .int _,_,_,h=>by simpa only[df]using h
 | .bool,_,_,h=>by simpa only[df]using h
 | .str,_,_,h=>by simpa only[df]using h
 | .slice t,_,_,h=>by simp only[df]at h ⊢;obtain⟨a,cap,vs,e,hl,hs,hr,hc⟩:=h;exact⟨a,cap,vs,e,hl,hs,hr.mono hm,hc.mono λc x hx=>df.mono hm hx⟩
 | .unit,_,_,h=>by simpa only[df]using h
 | .pair a b,_,_,h=>by simp only[df]at h ⊢;obtain⟨ca,cb,e,ha,hb⟩:=h;exact⟨ca,cb,e,df.mono hm ha,df.mono hm hb⟩
 | .arr n t,_,_,h=>by simp only[df]at h ⊢;exact⟨h.1,h.2.mono λc x hx=>df.mono hm hx⟩
 | .ig t,_,_,h=>by simp only[df]at h ⊢;refine⟨h.1,λl hx=> ?_⟩;obtain⟨a,cap,vs,e,hl,hs,hr,hc⟩:=h.2 l hx;exact⟨a,cap,vs,e,hl,hs,hr.mono hm,hc.mono λc x hx=>df.mono hm hx⟩
 | .uH t,_,_,h=>by simp only[df]at h ⊢;refine⟨h.1,λl hx=> ?_⟩;obtain⟨b,off,vs,e,hr,hc⟩:=h.2 l hx;exact⟨b,off,vs,e,hr.mono hm,df.mono hm hc⟩
def Env.cur(E:Env)(id:Id)(ver:Nat):Prop:=∃fr c,E.s id=some (.obj ver fr c)
def Env.G1(E:Env)(id:Id)(ver:Nat):Prop:=E.s id≠none/\∀v fr c,E.s id=some (.obj v fr c)->ver<=v
def fT(agg:Bool)(cs:List Value)(v:Value):Prop:=match agg with | true=>v= .agg cs.toArray | false=>cs=[v]
mutual
def V(E:Env):aB->List Value->Prop
 | .undef,_=>False
 | .gone,cs=>∃v,cs=[v]/\v.oneCell'=true
 | .de,cs=>cs=[.slice none 0 0]
 | .ri,cs=>cs=[.pointer none]
 | .xA,cs=>cs=[.nilFunc]
 | .De,cs=>cs=[.map none]
 | .sb l,cs=>∃(b cap:Nat) (arr:Array Value) (e:TypeId),cs=[.slice (some ⟨b,0,none⟩) l.length cap]/\l.length<=cap/\E.g b= .free/\E.w.heap[b]? =some (.cells arr e (arr.size,arr.size+1))/\∀(j:Nat) (v:Value),(l.map (Value.int .u8))[j]? =some v->arr[j]? =some v
 | .d t x,cs=>df E t cs x
 | .pr a b,cs=>∃ca cb,cs=ca++cb/\V E a ca/\V E b cb
 | .ptr id ver _ n,cs=>∃a,cs=[.pointer (some a)]/\E.G1 id ver/\(E.cur id ver->∃pl,E.β id=some pl/\a=⟨pl.b,n,none⟩)
 | .dO t x,cs=>∃b off vs,cs=[.pointer (some ⟨b,off,none⟩)]/\GW E (some ⟨b,off,none⟩) vs/\df E t vs x
 | .bA id ver p c i len,cs=>∃a cap,cs=[.slice a len cap]/\len<=cap/\(0 < len->a.isSome=true)/\E.G1 id ver/\
   (E.cur id ver->match E.β id with
    |some pl=>(0 < len\/i=0->a=some ⟨pl.b,c,none⟩)/\(p=[]->i=0->cap=pl.cap)
    |none=>a=none/\len=0/\cap=0)
 | .fn f c,cs=>∃vs,cs=[.func (.func f) #[] vs.toArray]/\VC E c vs
 | .cons _ _,_=>False
 | .nil,_=>False
 | .vec ..,_=>False
 | .bx ..,_=>False
 | .yl id ver,cs=>∃l,cs=[.func (.yield l) #[] #[]]/\E.G1 id ver/\(E.cur id ver->∃pl,E.β id=some pl/\l=pl.b)
 | .rP ..,_=>False
 | .cj id ver,cs=>∃b,cs=[.map (some b)]/\E.G1 id ver/\(E.cur id ver->∃pl,E.β id=some pl/\b=pl.b)
 | .mp ..,_ | .tC ..,_=>False
def VC(E:Env):aB->List Value->Prop
 | .nil,vs=>vs=[]
 | .cons a b,vs=>∃v vs' cs,vs=v::vs'/\V E a cs/\fT a.agg cs v/\VC E b vs'
 |_,_=>False
end
structure cM(E E':Env):Prop where
 mem:uf E E'
 G1:∀id ver,E.G1 id ver->E'.G1 id ver
 cur:∀id ver,E.G1 id ver->E'.cur id ver->E.cur id ver/\E'.β id=E.β id
theorem cM.refl(E:Env):cM E E:=⟨uf.refl E,λ_ _ h=>h,λ_ _ _ h=>⟨h,rfl⟩⟩
theorem cM.trans{E E' E'':Env}(h:cM E E')(h':cM E' E''):cM E E'':=
 ⟨h.mem.trans h'.mem,λid v b=>h'.G1 id v (h.G1 id v b),λid v b c=>
  let⟨c1,e1⟩:=h'.cur id v (h.G1 id v b) c
  let⟨c2,e2⟩:=h.cur id v b c1
  ⟨c2,e1.trans e2⟩⟩
mutual
theorem V.mono{E E':Env}(h:cM E E'):∀ {a:aB} {cs:List Value},V E a cs->V E' a cs
 | .undef,_,hv=>by simp only[V]at hv
 | .gone,_,hv=>by simpa only[V]using hv
 | .de,_,hv=>by simpa only[V]using hv
 | .ri,_,hv=>by simpa only[V]using hv
 | .xA,_,hv=>by simpa only[V]using hv
 | .rP ..,_,hv=>by simp only[V]at hv
 | .De,_,hv=>by simpa only[V]using hv
 | .sb l,_,hv=>by simp only[V]at hv ⊢;obtain⟨b,cap,arr,e,h1,h2,h3,h4,h5⟩:=hv;obtain⟨h6,h7⟩:=h.mem.fz b _ h3 h4;exact⟨b,cap,arr,e,h1,h2,h6,h7,h5⟩
 | .d t x,_,hv=>by simp only[V]at hv ⊢;exact hv.mono h.mem
 | .pr a b,_,hv=>by simp only[V]at hv ⊢;obtain⟨ca,cb,e,ha,hb⟩:=hv;exact⟨ca,cb,e,V.mono h ha,V.mono h hb⟩
 | .ptr id ver p n,_,hv=>by simp only[V]at hv ⊢;obtain⟨a,e,hb,hc⟩:=hv;refine⟨a,e,h.G1 _ _ hb,λc=> ?_⟩;obtain⟨c1,e1⟩:=h.cur _ _ hb c;rw[e1];exact hc c1
 | .dO t x,_,hv=>by simp only[V]at hv ⊢;obtain⟨b,off,vs,e,hr,hx⟩:=hv;exact⟨b,off,vs,e,hr.mono h.mem,hx.mono h.mem⟩
 | .bA id ver p c i len,_,hv=>by simp only[V]at hv ⊢;obtain⟨a,cap,e,hl,hs,hb,hc⟩:=hv;refine⟨a,cap,e,hl,hs,h.G1 _ _ hb,λc=> ?_⟩;obtain⟨c1,e1⟩:=h.cur _ _ hb c;rw[e1];exact hc c1
 | .fn f c,_,hv=>by simp only[V]at hv ⊢;obtain⟨vs,e,hc⟩:=hv;exact⟨vs,e,VC.mono h hc⟩
 | .cons _ _,_,hv=>by simp only[V]at hv
 | .nil,_,hv=>by simp only[V]at hv
 | .vec ..,_,hv=>by simp only[V]at hv
 | .bx ..,_,hv=>by simp only[V]at hv
 | .yl id ver,_,hv=>by simp only[V]at hv ⊢;obtain⟨b,e,hb,hc⟩:=hv;refine⟨b,e,h.G1 _ _ hb,λc=> ?_⟩;obtain⟨c1,e1⟩:=h.cur _ _ hb c;rw[e1];exact hc c1
 | .cj id ver,_,hv=>by simp only[V]at hv ⊢;obtain⟨b,e,hb,hc⟩:=hv;refine⟨b,e,h.G1 _ _ hb,λc=> ?_⟩;obtain⟨c1,e1⟩:=h.cur _ _ hb c;rw[e1];exact hc c1
 | .mp ..,_,hv | .tC ..,_,hv=>by simp only[V]at hv
theorem VC.mono{E E':Env}(h:cM E E'):∀ {a:aB} {vs:List Value},VC E a vs->VC E' a vs
 | .nil,_,hv=>by simpa only[VC]using hv
 | .cons a b,_,hv=>by simp only[VC]at hv ⊢;obtain⟨v,vs',cs,e,ha,ho,hb⟩:=hv;exact⟨v,vs',cs,e,V.mono h ha,ho,VC.mono h hb⟩
 | .undef,_,hv=>by simp only[VC]at hv
 | .gone,_,hv=>by simp only[VC]at hv
 | .de,_,hv=>by simp only[VC]at hv
 | .ri,_,hv=>by simp only[VC]at hv
 | .xA,_,hv=>by simp only[VC]at hv
 | .yl ..,_,hv | .rP ..,_,hv=>by simp only[VC]at hv
 | .De,_,hv=>by simp only[VC]at hv
 | .sb _,_,hv=>by simp only[VC]at hv
 | .d t x,_,hv=>by simp only[VC]at hv
 | .pr a b,_,hv=>by simp only[VC]at hv
 | .ptr ..,_,hv=>by simp only[VC]at hv
 | .dO ..,_,hv=>by simp only[VC]at hv
 | .bA ..,_,hv=>by simp only[VC]at hv
 | .fn ..,_,hv=>by simp only[VC]at hv
 | .vec ..,_,hv=>by simp only[VC]at hv
 | .bx ..,_,hv=>by simp only[VC]at hv
 | .cj ..,_,hv=>by simp only[VC]at hv
 | .mp ..,_,hv | .tC ..,_,hv=>by simp only[VC]at hv
end
theorem V.size{E:Env}:∀ {a:aB} {cs:List Value},V E a cs->cs.length=a.size
 | .undef,_,hv=>by simp only[V]at hv
 | .gone,_,hv=>by simp only[V]at hv;obtain⟨v,rfl,_⟩:=hv;rfl
 | .de,_,hv=>by simp only[V]at hv;rw[hv];rfl
 | .ri,_,hv=>by simp only[V]at hv;rw[hv];rfl
 | .xA,_,hv=>by simp only[V]at hv;rw[hv];rfl
 | .yl ..,_,hv=>by simp only[V]at hv;obtain⟨_,rfl,_⟩:=hv;rfl
 | .rP ..,_,hv=>by simp only[V]at hv
 | .De,_,hv=>by simp only[V]at hv;rw[hv];rfl
 | .sb _,_,hv=>by simp only[V]at hv;obtain⟨_,_,_,_,rfl,_⟩:=hv;rfl
 | .d t x,_,hv=>by simp only[V]at hv;exact hv.size
 | .pr a b,_,hv=>by simp only[V]at hv;obtain⟨ca,cb,rfl,ha,hb⟩:=hv;simp[aB.size,V.size ha,V.size hb]
 | .ptr ..,_,hv=>by simp only[V]at hv;obtain⟨a,rfl,_⟩:=hv;rfl
 | .dO ..,_,hv=>by simp only[V]at hv;obtain⟨_,_,_,rfl,_⟩:=hv;rfl
 | .bA ..,_,hv=>by simp only[V]at hv;obtain⟨_,_,rfl,_⟩:=hv;rfl
 | .fn ..,_,hv=>by simp only[V]at hv;obtain⟨_,rfl,_⟩:=hv;rfl
 | .cons _ _,_,hv=>by simp only[V]at hv
 | .nil,_,hv=>by simp only[V]at hv
 | .vec ..,_,hv=>by simp only[V]at hv
 | .bx ..,_,hv=>by simp only[V]at hv
 | .cj ..,_,hv=>by simp only[V]at hv;obtain⟨_,rfl,_⟩:=hv;rfl
 | .mp ..,_,hv | .tC ..,_,hv=>by simp only[V]at hv
theorem V.one{E:Env}:∀ {a:aB} {cs:List Value},V E a cs->∀c∈cs,c.oneCell'=true
 | .undef,_,hv=>by simp only[V]at hv
 | .gone,_,hv=>by simp only[V]at hv;obtain⟨v,rfl,h⟩:=hv;simp[h]
 | .de,_,hv=>by simp only[V]at hv;rw[hv];simp[Value.oneCell']
 | .ri,_,hv=>by simp only[V]at hv;rw[hv];simp[Value.oneCell']
 | .xA,_,hv=>by simp only[V]at hv;rw[hv];simp[Value.oneCell']
 | .yl ..,_,hv=>by simp only[V]at hv;obtain⟨_,rfl,_⟩:=hv;simp[Value.oneCell']
 | .rP ..,_,hv=>by simp only[V]at hv
 | .De,_,hv=>by simp only[V]at hv;rw[hv];simp[Value.oneCell']
 | .sb _,_,hv=>by simp only[V]at hv;obtain⟨_,_,_,_,rfl,_⟩:=hv;simp[Value.oneCell']
 | .d t x,_,hv=>by simp only[V]at hv;exact hv.one
 | .pr a b,_,hv=>by
  simp only[V]at hv;obtain⟨ca,cb,rfl,ha,hb⟩:=hv;intro c hc;rcases bz.1 hc with hc | hc
  ·exact V.one ha c hc
  ·exact V.one hb c hc
 | .ptr ..,_,hv=>by simp only[V]at hv;obtain⟨a,rfl,_⟩:=hv;simp[Value.oneCell']
 | .dO ..,_,hv=>by simp only[V]at hv;obtain⟨_,_,_,rfl,_⟩:=hv;simp[Value.oneCell']
 | .bA ..,_,hv=>by simp only[V]at hv;obtain⟨_,_,rfl,_⟩:=hv;simp[Value.oneCell']
 | .fn ..,_,hv=>by simp only[V]at hv;obtain⟨_,rfl,_⟩:=hv;simp[Value.oneCell']
 | .cons _ _,_,hv=>by simp only[V]at hv
 | .nil,_,hv=>by simp only[V]at hv
 | .vec ..,_,hv=>by simp only[V]at hv
 | .bx ..,_,hv=>by simp only[V]at hv
 | .cj ..,_,hv=>by simp only[V]at hv;obtain⟨_,rfl,_⟩:=hv;simp[Value.oneCell']
 | .mp ..,_,hv | .tC ..,_,hv=>by simp only[V]at hv
theorem aB.apA:∀ {v:aB},v.agg=false->v.size=1
 | .d (.int _) _,_ | .d .bool _,_ | .d .str _,_ | .d (.slice _) _,_ | .d (.ig _) _,_ | .d (.uH _) _,_=>rfl
 | .d .unit _,h | .d (.pair _ _) _,h | .d (.arr _ _) _,h=>by simp[aB.agg,Ty.agg]at h
 | .pr _ _,h=>by simp[aB.agg]at h
 | .undef,_ | .gone,_ | .de,_ | .ri,_ | .xA,_ | .De,_ | .ptr ..,_ | .dO ..,_ | .bA ..,_ | .fn ..,_ | .cons ..,_ | .nil,_ | .vec ..,_ | .sb _,_ | .bx ..,_ | .cj ..,_ | .mp ..,_ | .tC ..,_ | .yl ..,_ | .rP ..,_=>rfl
def VS(E:Env):aB->Value->Prop
 | .undef,_=>True
 | .cons a b,v=>∃vs,v= .tuple vs.toArray/\VC E (.cons a b) vs
 | .nil,v=>v= .tuple #[]
 |a,v=>∃cs,V E a cs/\fT a.agg cs v
theorem VS.mono{E E':Env}(h:cM E E'):∀ {a:aB} {v:Value},VS E a v->VS E' a v:=by
 intro a v hv
 cases a <;> first
  |trivial
  |exact hv
  | (obtain⟨cs,h1,h2⟩:=hv;exact⟨cs,V.mono h h1,h2⟩)
  | (obtain⟨vs,e,hc⟩:=hv;exact⟨vs,e,VC.mono h hc⟩)
theorem VS.undef{E:Env}{v:Value}:VS E .undef v:=trivial
theorem VS.of{E:Env}{a:aB}{cs:List Value}{v:Value}(h:V E a cs)(ho:fT a.agg cs v):VS E a v:=by
 cases a <;> first
  | (simp only[V]at h;done)
  |exact⟨cs,h,ho⟩
theorem VS.eQ{E:Env}{a:aB}{v:Value}(h:VS E a v)(hc:a.eQ=true):∃cs,V E a cs/\fT a.agg cs v:=by
 cases a <;> first
  | (simp[aB.eQ]at hc;done)
  |exact h
theorem VS.single{E:Env}{a:aB}{v:Value}(h:VS E a v)(hc:a.eQ=true)(ha:a.agg=false):V E a [v]:=by obtain⟨cs,hv,ho⟩:=h.eQ hc;rw[ha]at ho;have:cs=[v]:=ho;rw[<-this];exact hv
theorem fT.cells{agg:Bool}{cs:List Value}{v:Value}(h:fT agg cs v)(h1:∀c∈cs,c.oneCell'=true):v.cells=cs.toArray:=by
 cases agg with
 |true=>have:v= .agg cs.toArray:=h;rw[this];rfl
 |false=>
  have e:cs=[v]:=h;have:=h1 v (by simp[e]);rw[e];cases v <;> first | rfl | (simp[Value.oneCell']at this;done)
end Go.Ab
namespace Go.Ab
section
variable {α β:Type}
theorem ay{a b:α}:(Out.ok a).eval=some b↔a=b:=by simp[Out.eval]
theorem av{b:α}:(Out.fail:Out α).eval=some b↔False:=by simp[Out.eval]
theorem bS{c:Bool}{r:Out α}{b:α}:(Out.vi c r).eval=some b↔c=true/\r.eval=some b:=by cases c <;> simp[Out.eval]
theorem aC{c:Bool}{r:Out α}{b:α}:(Out.guard c r).eval=some b↔c=true/\r.eval=some b:=by cases c <;> simp[Out.guard,Out.eval]
theorem xu{x:Option β}{f:β->Out α}{b:α}:(Out.get x f).eval=some b↔∃y,x=some y/\(f y).eval=some b:=by cases x <;> simp[Out.eval]
theorem ku{x:Option α}{b:α}:(Out.opt x).eval=some b↔x=some b:=by cases x <;> simp[Out.opt,Out.eval]
theorem aiG(o:Out α)(f:α->Out β):(o.bind f).eval=o.eval.bind λa=>(f a).eval:=by
 induction o with
 |ok a=>rfl
 |fail=>rfl
 |vi c r ih=>cases c <;> simp[Out.bind,Out.eval,ih]
 |get x g ih=>cases x <;> simp[Out.bind,Out.eval,ih]
 |br c x y ih1 ih2=>cases c <;> simp[Out.bind,Out.eval,ih1,ih2]
theorem aw{o:Out α}{f:α->Out β}{b:β}:(o.bind f).eval=some b↔∃a,o.eval=some a/\(f a).eval=some b:=by rw[aiG];simp[Option.bind_eq_some_iff]
theorem run_eq{R:Type}(o:Out α)(k:α->Option R):o.run k=o.eval.bind k:=by
 induction o with
 |ok a=>rfl
 |fail=>rfl
 |vi c r ih=>cases c <;> simp[Out.run,Out.eval,aJ,ih]
 |get x g ih=>cases x <;> simp[Out.run,Out.eval,al,ih]
 |br c x y ih1 ih2=>cases c <;> simp[Out.run,Out.eval,aJ,ih1,ih2]
theorem iy{R:Type}{o:Out α}{k:α->Option R}{r:R}:o.run k=some r↔∃a,o.eval=some a/\k a=some r:=by rw[run_eq];simp[Option.bind_eq_some_iff]
end
theorem jO{t t':Ty}{x:t.den}{y:t'.den}(h:vF t t' x=some y):∃e:t=t',e▸x=y:=by
 unfold vF at h;split at h
 ·rename_i e;exact⟨e,by simpa using h⟩
 ·cases h
theorem bD.map{α β:Type}{R:List Value->α->Prop}{R':List Value->β->Prop}{f:α->β}(h:∀c x,R c x->R' c (f x)):∀ {cs:List Value} {l:List α},bD R cs l->bD R' cs (l.map f)
 |_,[],hc=>hc
 |_,x::xs,⟨c,cs',e,hx,hr⟩=>⟨c,cs',e,h c x hx,bD.map h hr⟩
theorem df.aQt{E:Env}:∀(a b:Ty) (f:a.den->b.den),adZ a b=some f->∀(cs:List Value) (x:a.den),df E a cs x->df E b cs (f x):=by
 intro a b
 induction a,b using adZ.induct with
 |case1 t=>
  intro f hf cs x hx;unfold adZ at hf;rw[ze rfl]at hf;obtain rfl:=bf hf;simp only[df]at hx;obtain⟨h1,h2⟩:=hx;show df E (.slice t) cs ((x:Option (List t.den)).getD []);simp only[df];cases hx:(x:Option (List t.den)) with
  |none=>exact⟨none,0,[],h1 hx,ax _,λh=>absurd h (ik 0),λi v hh=>by simp at hh,rfl⟩
  |some l=>exact h2 l hx
 |case2 t t' gF=>
  intro f hf;unfold adZ at hf;rw[Cg gF]at hf;cases hf
 |case3 t=>
  intro f hf cs x hx;unfold adZ at hf;rw[ze rfl]at hf;obtain rfl:=bf hf;simp only[df]at hx ⊢;refine⟨λh=>(by cases h),λl hl=> ?_⟩;obtain rfl:x=l:=bf hl;exact hx
 |case4 t t' gF=>
  intro f hf;unfold adZ at hf;rw[Cg gF]at hf;cases hf
 |case5 a b c d f g h1 h2 ih1 ih2=>
  intro k hk cs x hx;unfold adZ at hk;rw[h2,h1]at hk;obtain rfl:=bf hk;simp only[df]at hx ⊢;obtain⟨ca,cb,e,ha,hb⟩:=hx;exact⟨ca,cb,e,ih1 f h2 ca x.1 ha,ih2 g h1 cb x.2 hb⟩
 |case6 a b c d hn ih1 ih2=>
  intro p hp;unfold adZ at hp;split at hp
  ·rename_i f k h1 h2;exact(hn _ _ h1 h2).elim
  ·cases hp
 |case7 a b f h1 ih=>
  intro k hk cs x hx;unfold adZ at hk;rw[h1]at hk;obtain rfl:=bf hk;simp only[df]at hx ⊢;obtain⟨ad,cap,vs,e,hl,hs,hr,hc⟩:=hx;rw[bV];exact⟨ad,cap,vs,e,hl,hs,hr,hc.map λc x hx=>ih f h1 c x hx⟩
 |case8 a b h1 ih=>
  intro p hp;unfold adZ at hp;rw[h1]at hp;cases hp
 |case9 a h1 h2 h3 h4=>
  intro f hf cs x hx;rw[adZ.eq_5 _ _ h1 h2 h3 h4,ze rfl]at hf;obtain rfl:=bf hf;exact hx
 |case10 a b h1 h2 h3 h4 gF=>
  intro f hf;rw[adZ.eq_5 _ _ h1 h2 h3 h4,Cg gF]at hf;cases hf
theorem aKN{t t':Ty}{f:t.den->t'.den}(hp:adZ t t'=some f):t.agg=t'.agg:=by
 unfold adZ at hp;split at hp
 ·rfl
 ·rfl
 ·rfl
 ·rfl
 ·split at hp
  ·rename_i e;rw[e]
  ·cases hp
theorem afL{t t':Ty}{x:t.den}{y:t'.den}(h:H8 t t' x=some y):t.agg=t'.agg:=by
 unfold H8 at h;split at h
 ·rename_i z hz;obtain⟨e,_⟩:=jO hz;rw[e]
 ·split at h
  ·rename_i f hf;exact aKN hf
  ·cases h
theorem Fi{E:Env}{t t':Ty}{x:t.den}{y:t'.den}(h:H8 t t' x=some y){cs:List Value}(hx:df E t cs x):df E t' cs y:=by
 unfold H8 at h;split at h
 ·rename_i z hz;obtain⟨e,hz⟩:=jO hz;subst e;obtain rfl:=bf h;simp only at hz;rw[<-hz];exact hx
 ·split at h
  ·rename_i f hf;obtain rfl:=bf h;exact df.aQt _ _ f hf cs x hx
  ·cases h
theorem ax6{E:Env}{t t':Ty}{x:List t.den}{y:List t'.den}(h:H8 (.slice t) (.slice t') x=some y):y.length=x.length/\∀vs,bD (df E t) vs x->bD (df E t') vs y:=by
 unfold H8 at h;split at h
 ·rename_i z hz;obtain⟨e,hz⟩:=jO hz;have e':t=t':=by simpa using e
  subst e';obtain rfl:=bf h;simp only at hz;subst hz;exact⟨rfl,λ_ h=>h⟩
 ·split at h
  ·rename_i p hp;obtain rfl:=bf h;unfold adZ at hp;cases hd:adZ t t' with
   |none=>rw[hd]at hp;cases hp
   |some q=>
    rw[hd]at hp;obtain rfl:=bf hp;exact⟨bV _,λvs hc=>hc.map λc x hx=>df.aQt _ _ q hd c x hx⟩
  ·cases h
def VO(E:Env):aB->List Value->Prop
 | .vec _ t l,cs=>bD (df E t) cs l
 |a,cs=>V E a cs
theorem VO.of{E:Env}{a:aB}{cs:List Value}(h:V E a cs):VO E a cs:=by cases a <;> first | exact h | (simp only[V]at h)
def aB.iS:aB->Bool | .vec .. =>true | .mp .. =>true | .tC .. =>true | .rP .. =>true | _=>false
theorem VO.to{E:Env}{a:aB}{cs:List Value}(h:VO E a cs)(hn:a.iS=false):V E a cs:=by cases a <;> first | exact h | (simp[aB.iS]at hn)
theorem VO.mono{E E':Env}(h:cM E E'){a:aB}{cs:List Value}(hv:VO E a cs):VO E' a cs:=by cases a <;> first | exact V.mono h hv | exact bD.mono (λ_ _ hx=>hx.mono h.mem) hv
theorem abf{t:Ty}{l:List t.den}{i:Nat}(h:i < l.length):nth t l i=l[i]:=by unfold nth;simp[h]
theorem abu{α:Type}(cs:List α)(n m k j:Nat)(h:k+j<=m):(((cs.drop n).take m).drop k).take j=(cs.drop (n+k)).take j:=by rw[ue,eJ,fU];congr 1;omega
theorem RB{E:Env}{t:Ty}{cs:List Value}{l:List t.den}(h:bD (df E t) cs l){i:Nat}(hi:i < l.length):
  df E t ((cs.drop (i*t.size)).take t.size) l[i]/\i*t.size+t.size<=cs.length:=by
 have hz:∀c x,df E t c x->c.length=t.size:=λc x hx=>hx.size
 refine⟨h.get hz i hi,?_⟩;rw[h.length hz,<-Nat.succ_mul];exact cS _ hi
theorem tF{E:Env}:∀(p:List La) (c:aB) (cs:List Value) (n:Nat) (v:aB),VO E c cs->(loc c p).eval=some (n,v)->
  (n=0/\v=c)\/(V E v ((cs.drop n).take v.size)/\n+v.size<=cs.length)
 |[],c,cs,n,v,hc,h=>by left;simp only[loc,ay,cE]at h;exact⟨h.1.symm,h.2.symm⟩
 |st::p,c,cs,n,v,hc,h=>by
  by_cases mG:st= .arr
  ·subst mG;have h':(loc c p).eval=some (n,v):=by cases c <;> simpa only[loc]using h
   exact tF p c cs n v hc h'
  right;have whole:∀(c':aB) (cs':List Value) (n':Nat) (v':aB),V E c' cs'->(loc c' p).eval=some (n',v')->V E v' ((cs'.drop n').take v'.size)/\n'+v'.size<=cs'.length:=by
   intro c' cs' n' v' hc' hl;rcases tF p c' cs' n' v' (VO.of hc') hl with⟨rfl,rfl⟩ | hh
   ·have:=hc'.size;rw[aD,aY ak];exact⟨hc',ak⟩
   ·exact hh
  have second:∀(a b:aB) (ca cb:List Value),cs=ca++cb->ca.length=a.size->V E b cb->((loc b p).bind λ(n,v)=>Out.ok (a.size+n,v)).eval=some (n,v)->
    V E v ((cs.drop n).take v.size)/\n+v.size<=cs.length:=by
   intro a b ca cb e hl hb hh;obtain⟨⟨n',v'⟩,h1,h2⟩:=aw.1 hh;simp only[ay,cE]at h2;obtain⟨rfl,rfl⟩:=h2;obtain⟨h3,h4⟩:=whole b cb n' v' hb h1;subst e;rw[<-hl,ka,dZ ak,aT,Nat.add_sub_cancel_left];exact⟨h3,by simp only[ai];omega⟩
  have elem:∀(t:Ty) (l:List t.den) (i:Nat),bD (df E t) cs l->(Out.vi (decide (i < l.length)) ((loc (.d t (nth t l i)) p).bind λ(n,v)=>Out.ok (i*t.size+n,v))).eval=some (n,v)->
    V E v ((cs.drop n).take v.size)/\n+v.size<=cs.length:=by
   intro t l i wB hh;obtain⟨hi,hh⟩:=bS.1 hh;have hi:i < l.length:=by simpa using hi
   obtain⟨⟨n',v'⟩,h1,h2⟩:=aw.1 hh;simp only[ay,cE]at h2;obtain⟨rfl,rfl⟩:=h2;obtain⟨hp,hle⟩:=RB wB hi;rw[abf hi]at h1;have hv:V E (.d t l[i]) ((cs.drop (i*t.size)).take t.size):=by simpa only[V]using hp
   obtain⟨h3,h4⟩:=whole _ _ n' v' hv h1;have hlen:((cs.drop (i*t.size)).take t.size).length=t.size:=hp.size;rw[abu _ _ _ _ _ ak]at h3;exact⟨h3,ak⟩
  cases c with
  |pr a b=>
   simp only[VO,V]at hc;obtain⟨ca,cb,e,ha,hb⟩:=hc;cases st with
   |arr=>exact absurd rfl mG
   |fst=>
    simp only[loc]at h;obtain⟨h3,h4⟩:=whole a ca n v ha h;subst e;refine⟨?_,by simp only[ai];omega⟩;rw[ka,qi,dp,kO (by omega:v.size<=ca.length - n),dH,aZ];exact h3
   |snd=>simp only[loc]at h;exact second a b ca cb e ha.size hb h
   |idx i=>simp only[loc,av]at h
  |d t x=>
   simp only[VO,V]at hc;cases t with
   |pair ta tb=>
    simp only[df]at hc;obtain⟨ca,cb,e,ha,hb⟩:=hc;cases st with
    |arr=>exact absurd rfl mG
    |fst=>
     simp only[loc]at h;obtain⟨h3,h4⟩:=whole (.d ta x.1) ca n v (by simpa only[V]using ha) h;subst e;refine⟨?_,by simp only[ai];omega⟩;rw[ka,qi,dp,kO (by omega:v.size<=ca.length - n),dH,aZ];exact h3
    |snd=>simp only[loc]at h;exact second (.d ta x.1) (.d tb x.2) ca cb e ha.size (by simpa only[V]using hb) h
    |idx i=>simp only[loc,av]at h
   |arr m t=>
    simp only[df]at hc;cases st with
    |arr=>exact absurd rfl mG
    |idx i=>simp only[loc]at h;exact elem t x i hc.2 h
    |fst=>simp only[loc,av]at h
    |snd=>simp only[loc,av]at h
   |_=>cases st <;> first | exact absurd rfl mG | (simp only[loc,av]at h)
  |vec e t l=>
   simp only[VO]at hc;cases st with
   |arr=>exact absurd rfl mG
   |idx i=>simp only[loc]at h;exact elem t l i hc h
   |fst=>simp only[loc,av]at h
   |snd=>simp only[loc,av]at h
  |_=>cases st <;> first | exact absurd rfl mG | (simp only[loc,av]at h)
theorem aqC{E:Env}{a b:aB}{ca cb:List Value}(ha:V E a ca)(hb:V E b cb):V E (Q1 a b) (ca++cb):=by
 have gen:V E (.pr a b) (ca++cb):=by simp only[V];exact⟨ca,cb,rfl,ha,hb⟩
 unfold Q1;split
 ·simp only[V]at ha hb ⊢;simp only[df];exact⟨ca,cb,rfl,ha,hb⟩
 ·exact gen
theorem V1(a b:aB):(Q1 a b).iS=false:=by unfold Q1;split <;> rfl
def dA(cs:List Value)(n:Nat)(vs:List Value):List Value:=cs.take n++vs++cs.drop (n+vs.length)
theorem aue{cs vs:List Value}(h:cs.length=vs.length):dA cs 0 vs=vs:=by simp[dA,dZ (by omega:cs.length<=vs.length)]
theorem CN{ca cb vs:List Value}{n:Nat}(h:n+vs.length<=ca.length):dA (ca++cb) n vs=dA ca n vs++cb:=by unfold dA;rw[qi,ka,kO (by omega:n<=ca.length),dH,aZ,kO h,aD];simp only[aF]
theorem RY{ca cb vs:List Value}{n:Nat}:dA (ca++cb) (ca.length+n) vs=ca++dA cb n vs:=by unfold dA;rw[qi,aY ak,Nat.add_sub_cancel_left,ka,dZ ak,aT];simp only[aF];congr 4;omega
theorem auf{cs vs:List Value}{i z n:Nat}(hz:i+z<=cs.length)(h:n+vs.length<=z):
  dA cs (i+n) vs=cs.take i++dA ((cs.drop i).take z) n vs++cs.drop (i+z):=by
 have e:cs=cs.take i++((cs.drop i).take z++cs.drop (i+z)):=by rw[<-fU,dq,dq]
 have hl:(cs.take i).length=i:=by simp;omega
 have hm:((cs.drop i).take z).length=z:=by simp;omega
 conv=>lhs;rw[e,show i+n=(cs.take i).length+n by rw[hl]]
 rw[RY,CN ak];simp only[aF]
theorem j5{cs vs:List Value}{n:Nat}(h:n+vs.length<=cs.length):(dA cs n vs).length=cs.length:=by simp[dA];omega
def mB:aB->aB->Prop
 | .vec e t l,.vec e' t' l'=>e'=e/\t'=t/\l'.length=l.length
 | .vec ..,_=>False
 |_,.vec .. =>False
 | .mp ..,_ | .tC ..,_ | .rP ..,_=>False
 |_,.mp .. | _,.tC .. | _,.rP .. =>False
 |_,_=>True
theorem mB.uT{a b:aB}(h:mB a b)(ha:a.iS=false):b.iS=false:=by
 cases b <;> first
  |rfl
  | (cases a <;> first | (simp[aB.iS]at ha;done) | exact h.elim)
theorem mB.of{a b:aB}(ha:a.iS=false)(hb:b.iS=false):mB a b:=by
 cases a <;> first
  | (simp[aB.iS]at ha;done)
  | (cases b <;> first | trivial | (simp[aB.iS]at hb;done))
theorem V.uT{E:Env}{a:aB}{cs:List Value}(h:V E a cs):a.iS=false:=by cases a <;> first | rfl | (simp only[V]at h)
theorem qU{E:Env}:∀(p:List La) (c:aB) (cs:List Value) (n:Nat) (o v c':aB) (vs:List Value),VO E c cs->(loc c p).eval=some (n,o)->V E v vs->
  (yy c p v).eval=some c'->n+vs.length<=cs.length/\VO E c' (dA cs n vs)/\
   mB c c'
 |[],c,cs,n,o,v,c',vs,hc,hl,hv,h=>by
  simp only[loc,ay,cE]at hl;obtain⟨rfl,rfl⟩:=hl
  have main:∀(aRO:c.iS=false),(Out.guard (v.eQ && (c.size==v.size)) (.ok v)).eval=some c'->0+vs.length<=cs.length/\VO E c' (dA cs 0 vs)/\
   mB c c':=by
   intro aRO hg;obtain⟨h1,h2⟩:=aC.1 hg;obtain rfl:=ay.1 h2;simp only[au,dv]at h1;have e1:=(hc.to aRO).size;have e2:=hv.size;refine⟨ak,?_,?_⟩
   ·rw[aue ak];exact VO.of hv
   ·exact mB.of aRO hv.uT
  cases c with
  |vec e t l=>simp only[yy,av]at h
  |mp k v l=>simp only[yy,av]at h
  |tC q ver k v rest cur=>simp only[yy,av]at h
  |rP k f p=>simp only[yy,av]at h
  |_=>exact main rfl (by simpa only[yy]using h)
 |st::p,c,cs,n,o,v,c',vs,hc,hl,hv,h=>by
  by_cases mG:st= .arr
  ·subst mG;have hl':(loc c p).eval=some (n,o):=by cases c <;> simpa only[loc]using hl
   have h':(yy c p v).eval=some c':=by cases c <;> simpa only[yy]using h
   exact qU p c cs n o v c' vs hc hl' hv h'
  have left:∀(a b:aB) (ca cb:List Value),cs=ca++cb->V E a ca->V E b cb->(loc a p).eval=some (n,o)->((yy a p v).bind λa'=>Out.ok (Q1 a' b)).eval=some c'->
    n+vs.length<=cs.length/\VO E c' (dA cs n vs)/\c'.iS=false:=by
   intro a b ca cb e ha hb hl hh;obtain⟨a',h1,h2⟩:=aw.1 hh;obtain rfl:=ay.1 h2;obtain⟨h3,h4,h5⟩:=qU p a ca n o v a' vs (VO.of ha) hl hv h1;subst e;refine⟨by simp only[ai];omega,?_,V1 _ _⟩;rw[CN h3];have aTA:a'.iS=false:=h5.uT ha.uT;exact VO.of (aqC (h4.to aTA) hb)
  have right:∀(a b:aB) (ca cb:List Value),cs=ca++cb->ca.length=a.size->V E a ca->V E b cb->((loc b p).bind λ(n,v)=>Out.ok (a.size+n,v)).eval=some (n,o)->
    ((yy b p v).bind λb'=>Out.ok (Q1 a b')).eval=some c'->n+vs.length<=cs.length/\VO E c' (dA cs n vs)/\c'.iS=false:=by
   intro a b ca cb e aE7 ha hb hl hh;obtain⟨⟨n',v'⟩,h1,h2⟩:=aw.1 hl;simp only[ay,cE]at h2;obtain⟨rfl,rfl⟩:=h2;obtain⟨b',h3,h4⟩:=aw.1 hh;obtain rfl:=ay.1 h4;obtain⟨h5,h6,h7⟩:=qU p b cb n' v' v b' vs (VO.of hb) h1 hv h3;subst e;refine⟨by simp only[ai];omega,?_,V1 _ _⟩;rw[<-aE7,RY];have aTA:b'.iS=false:=h7.uT hb.uT;exact VO.of (aqC ha (h6.to aTA))
  have elem:∀(t:Ty) (l:List t.den) (i:Nat) (mk:List t.den->aB),bD (df E t) cs l->(Out.vi (decide (i < l.length)) ((loc (.d t (nth t l i)) p).bind λ(n,v)=>Out.ok (i*t.size+n,v))).eval=some (n,o)->
    (Out.vi (decide (i < l.length)) ((yy (.d t (nth t l i)) p v).bind fun
     | .d t' y=>(Out.opt (vF t' t y)).bind λy=> .ok (mk (l.set i y))
     |_=> .fail)).eval=some c'->
    n+vs.length<=cs.length/\∃l',c'=mk l'/\l'.length=l.length/\bD (df E t) (dA cs n vs) l':=by
   intro t l i mk wB hl hh;obtain⟨hi,hl⟩:=bS.1 hl;have hi:i < l.length:=by simpa using hi
   obtain⟨⟨n',v'⟩,h1,h2⟩:=aw.1 hl;simp only[ay,cE]at h2;obtain⟨rfl,rfl⟩:=h2;obtain⟨_,hh⟩:=bS.1 hh;obtain⟨w,h3,h4⟩:=aw.1 hh;obtain⟨hp,hle⟩:=RB wB hi;rw[abf hi]at h1 h3;have aPg:V E (.d t l[i]) ((cs.drop (i*t.size)).take t.size):=by simpa only[V]using hp
   have hlen:((cs.drop (i*t.size)).take t.size).length=t.size:=hp.size;obtain⟨h5,h6,h7⟩:=qU p _ _ n' v' v w vs (VO.of aPg) h1 hv h3;cases w with
   |d t' y=>
    simp only at h4;obtain⟨y',h8,h9⟩:=aw.1 h4;obtain⟨rfl,h8⟩:=jO (ku.1 h8);simp only at h8;subst h8;obtain rfl:=ay.1 h9;refine⟨ak,_,rfl,by simp,?_⟩;have hy:df E t' (dA ((cs.drop (i*t'.size)).take t'.size) n' vs) y:=by simpa only[VO,V]using h6
    have:=bD.set (λc x hx=>df.size hx) wB i hi hy;rw[auf (by omega:i*t'.size+t'.size<=cs.length) ak];rwa[hy.size]at this
   |_=>simp only[av]at h4
  cases c with
  |pr a b=>
   simp only[VO,V]at hc;obtain⟨ca,cb,e,ha,hb⟩:=hc;cases st with
   |arr=>exact absurd rfl mG
   |fst=>
    simp only[loc]at hl;simp only[yy]at h;obtain⟨r1,r2,r3⟩:=left a b ca cb e ha hb hl h;exact⟨r1,r2,mB.of rfl r3⟩
   |snd=>
    simp only[loc]at hl;simp only[yy]at h;obtain⟨r1,r2,r3⟩:=right a b ca cb e ha.size ha hb hl h;exact⟨r1,r2,mB.of rfl r3⟩
   |idx i=>simp only[loc,av]at hl
  |d t x=>
   simp only[VO,V]at hc;cases t with
   |pair ta tb=>
    simp only[df]at hc;obtain⟨ca,cb,e,ha,hb⟩:=hc;have ha':V E (.d ta x.1) ca:=by simpa only[V]using ha
    have hb':V E (.d tb x.2) cb:=by simpa only[V]using hb
    cases st with
    |arr=>exact absurd rfl mG
    |fst=>
     simp only[loc]at hl;simp only[yy]at h;obtain⟨r1,r2,r3⟩:=left _ _ ca cb e ha' hb' hl h;exact⟨r1,r2,mB.of rfl r3⟩
    |snd=>
     simp only[loc]at hl;simp only[yy]at h;obtain⟨r1,r2,r3⟩:=right (.d ta x.1) (.d tb x.2) ca cb e ha.size ha' hb' hl h;exact⟨r1,r2,mB.of rfl r3⟩
    |idx i=>simp only[loc,av]at hl
   |arr m t=>
    simp only[df]at hc;cases st with
    |arr=>exact absurd rfl mG
    |idx i=>
     simp only[loc]at hl;simp only[yy]at h;obtain⟨r1,l',e,r2,r3⟩:=elem t x i (λl=> .d (.arr m t) l) hc.2 hl h;subst e;refine⟨r1,?_,trivial⟩;simp only[VO,V,df];exact⟨by rw[r2];exact hc.1,r3⟩
    |fst=>simp only[loc,av]at hl
    |snd=>simp only[loc,av]at hl
   |_=>cases st <;> first | exact absurd rfl mG | (simp only[loc,av]at hl)
  |vec e t l=>
   simp only[VO]at hc;cases st with
   |arr=>exact absurd rfl mG
   |idx i=>
    simp only[loc]at hl;simp only[yy]at h;obtain⟨r1,l',e',r2,r3⟩:=elem t l i (λl=> .vec e t l) hc hl h;subst e';exact⟨r1,by simpa only[VO]using r3,rfl,rfl,r2⟩
   |fst=>simp only[loc,av]at hl
   |snd=>simp only[loc,av]at hl
  |_=>cases st <;> first | exact absurd rfl mG | (simp only[loc,av]at hl)
end Go.Ab
namespace Go.Ab
def aQZ(E:Env)(id:Id)(fr:Bool)(e:TypeId)(t:Ty)(l:List t.den):Prop:=
 0 < t.size/\match E.β id with
  |none=>l=[]
  |some pl=>∃cur k,E.w.heap[pl.b]? =some (.cells cur e (0,0))/\cur.size=pl.cap*t.size/\l.length<=pl.cap/\pl.cap<=maxLen/\E.g pl.b= .own (.id id) k/\
    k<=l.length*t.size/\(fr=false->k=0)/\bD (df E t) (cur.toList.take (l.length*t.size)) l
def aB.HZ:aB->Pl->Nat->TypeId->Prop
 | .bx e' 0 _,_,_,e=>e=e'
 | .bx e' (z+1) c,pl,n,e=>e=e'/\n=pl.cap*(z+1)/\pl.cap<=maxLen/\c.size<=n
 |_,_,_,_=>True
def aB.xW:aB->Nat->Nat
 | .bx _ (_+1) c,_=>c.size
 |_,n=>n
def aB.ad4:aB->Bool | .bx .. =>true | _=>false
theorem V.Bh{E:Env}{a:aB}{cs:List Value}(h:V E a cs):a.ad4=false:=by cases a <;> first | rfl | (simp only[V]at h)
theorem Uy{c:aB}(h:c.ad4=false):c.strip=c:=by cases c <;> first | rfl | (simp[aB.ad4]at h)
theorem S3{c:aB}(h:c.ad4=false)(pl:Pl)(n:Nat)(e:TypeId):c.HZ pl n e:=by cases c <;> first | trivial | (simp[aB.ad4]at h)
theorem YY{c:aB}(h:c.ad4=false)(n:Nat):c.xW n=n:=by cases c <;> first | rfl | (simp[aB.ad4]at h)
theorem OU(c:aB){c':aB}(h:c'.ad4=false):(c.wrap c').strip=c':=by cases c <;> first | rfl | exact Uy h
theorem Nh{c c':aB}{pl:Pl}{n:Nat}{e:TypeId}(hc:c.HZ pl n e)(h:c'.ad4=false)(hs:c'.size=c.strip.size):(c.wrap c').HZ pl n e:=by
 cases c with
 |bx e' z c=>cases z with
  |zero=>exact hc
  |succ z=>exact⟨hc.1,hc.2.1,hc.2.2.1,by rw[hs];exact hc.2.2.2⟩
 |_=>exact S3 h pl n e
theorem S0{c c':aB}{n:Nat}(h:c'.ad4=false)(hs:c'.size=c.strip.size):(c.wrap c').xW n=c.xW n:=by
 cases c with
 |bx e' z c=>cases z with
  |zero=>rfl
  |succ z=>exact hs
 |_=>exact YY h n
theorem XO{c:aB}{pl:Pl}{n:Nat}{e:TypeId}(h:c.HZ pl n e):c.xW n<=n:=by
 cases c with
 |bx e' z c=>cases z with
  |zero=>exact ax _
  |succ z=>exact h.2.2.2
 |_=>exact ax _
def ara(id:Id)(fr:Bool):mz:=match fr with | true=> .free | false=> .own (.id id) 0
def SF(E:Env)(id:Id)(fr:Bool)(c:aB):Prop:=∃pl cur e,E.β id=some pl/\E.w.heap[pl.b]? =some (.cells cur e (0,0))/\E.g pl.b=ara id fr/\c.HZ pl cur.size e/\V E c.strip (cur.toList.take (c.xW cur.size))
def Alike{α β:Type}(R:α->β->Prop):List α->List β->Prop
 |[],[]=>True
 |x::xs,y::ys=>R x y/\Alike R xs ys
 |_,_=>False
theorem Alike.mono{α β:Type}{R R':α->β->Prop}(h:∀x y,R x y->R' x y):∀ {xs:List α} {ys:List β},Alike R xs ys->Alike R' xs ys
 |[],[],_=>trivial
 |_::_,_::_,⟨h1,h2⟩=>⟨h _ _ h1,Alike.mono h h2⟩
 |[],_::_,h=>h.elim
 |_::_,[],h=>h.elim
def DT(E:Env)(t:Ty)(v:Value)(x:t.den):Prop:=∃cs,df E t cs x/\fT t.agg cs v
def EX(E:Env)(kt vt:Ty)(e:MapEntry)(x:kt.den×vt.den):Prop:=DT E kt e.key x.1/\DT E vt e.val x.2
theorem EX.mono{E E':Env}(h:uf E E'){kt vt:Ty}{e:MapEntry}{x:kt.den×vt.den}(he:EX E kt vt e x):EX E' kt vt e x:=
 let⟨⟨c1,a1,b1⟩,c2,a2,b2⟩:=he
 ⟨⟨c1,a1.mono h,b1⟩,c2,a2.mono h,b2⟩
def ahz(E:Env)(kt vt:Ty)(es:List MapEntry)(l:List (kt.den×vt.den)):Prop:=∃l',Alike (EX E kt vt) es l'/\l'.Perm l
theorem ahz.mono{E E':Env}(h:uf E E'){kt vt:Ty}{es:List MapEntry}{l:List (kt.den×vt.den)}(hm:ahz E kt vt es l):ahz E' kt vt es l:=
 let⟨l',h1,h2⟩:=hm
 ⟨l',h1.mono λ_ _ he=>he.mono h,h2⟩
def oQ(es:List MapEntry)(clock:Nat):Prop:=(es.map (·.born)).Nodup/\∀e∈es,e.born < clock
theorem oQ.nil(n:Nat):oQ [] n:=⟨fW,λ_ h=>(by cases h)⟩
theorem oQ.push{es:List MapEntry}{clock:Nat}(h:oQ es clock){e:MapEntry}(he:e.born=clock):oQ (es++ [e]) (clock+1):=by
 refine⟨?_,λx hx=> ?_⟩
 ·rw[rY,List.nodup_append];refine⟨h.1,by simp,λa ha b hb=> ?_⟩;obtain⟨x,hx,rfl⟩:=cT.1 ha;have:=h.2 x hx;simp only[bQ,iq,bk]at hb;omega
 ·rcases bz.1 hx with hx | hx
  ·have:=h.2 x hx;omega
  ·rw[bk]at hx;subst hx;omega
theorem oQ.erase{es:List MapEntry}{clock:Nat}(h:oQ es clock)(j:Nat):oQ (es.eraseIdx j) clock:=⟨h.1.sublist ((List.eraseIdx_sublist es j).map _),λx hx=>h.2 x ((List.eraseIdx_sublist es j).subset hx)⟩
theorem oQ.set{es:List MapEntry}{clock:Nat}(h:oQ es clock){j:Nat}{e x:MapEntry}(hj:es[j]? =some e)(hx:x.born=e.born):oQ (es.set j x) clock:=by
 have gQ:=(dF.1 hj).1;have aVA:=(dF.1 hj).2;have e1:(es.set j x).map (·.born)=es.map (·.born):=by
  rw[List.map_set,hx,<-aVA];have:es[j].born=(es.map (·.born))[j]'(by simpa using gQ):=by simp
  rw[this,gI]
 refine⟨by rw[e1];exact h.1,λy hy=> ?_⟩;rcases List.mem_or_eq_of_mem_set hy with hy | hy
 ·exact h.2 y hy
 ·rw[hy,hx,<-aVA];exact h.2 _ (aN gQ)
def aTe(E:Env)(id:Id)(kt vt:Ty)(l:List (kt.den×vt.den)):Prop:=
 ∃pl es clock,E.β id=some pl/\E.w.heap[pl.b]? =some (.map es clock)/\E.g pl.b= .own (.id id) 0/\(ahz E kt vt es.toList l/\(l.map (·.1)).Nodup)/\oQ es.toList clock
def aN2(E:Env)(i q:Id)(ver:Nat)(kt vt:Ty)(rest:List (kt.den×vt.den))(cur:Option (kt.den×vt.den)):Prop:=
 ∃pl mb since seen c0,E.β i=some pl/\E.w.heap[pl.b]? =some (.mapIter (some mb) since seen c0)/\E.g pl.b= .own (.id i) 0/\∀vr,ver=vr+1->E.G1 q vr/\
  (E.cur q vr->(∃k v l,E.s q=some (.obj vr true (.mp k v l)))/\∃plq es clock,E.β q=some plq/\plq.b=mb/\E.w.heap[plq.b]? =some (.map es clock)/\E.g plq.b= .own (.id q) 0/\
   (∀x∈es.toList,x.born < since)/\(since<=c0/\since<=clock)/\(es.toList.map (·.born)).Nodup/\ahz E kt vt (es.toList.filter λe=> !seen.contains e.born) rest/\
   ∀x,cur=some x->∃(e:MapEntry) (seen':Array Nat),e∈es.toList/\seen=seen'.push e.born/\c0=clock/\EX E kt vt e x)
def aoZ:Nat->LoopState->Option Code->Prop
 | 0,st,pe=>st= .ready/\pe=none
 | 1,st,_=>st= .busy
 | 2,st,pe=>st= .done/\pe=some .ret
 |n+3,st,pe=>st= .done/\pe=some (.exit n)
def EY(E:Env)(f:aB)(tmps:Array Value):Prop:=f.list.length=tmps.size/\∀i,VS E (f.list.getD i .undef) (tmps.getD i undef)
def aTf(E:Env)(id:Id)(c:vB)(f:aB)(p:Nat):Prop:=∃pl r,E.β id=some pl/\E.w.heap[pl.b]? =some (.loop r)/\E.g pl.b= .own (.id id) 0/\(r.params=c.ps/\r.assign=c.as/\r.body=c.b)/\EY E f r.tmps/\aoZ p r.state r.pending
def xk(E:Env)(id:Id)(fr:Bool):aB->Prop
 | .rP c f p=>aTf E id c f p
 | .vec e t l=>aQZ E id fr e t l
 | .mp kt vt l=>aTe E id kt vt l
 | .tC q ver kt vt rest cur=>aN2 E id q ver kt vt rest cur
 |c=>SF E id fr c
theorem xk.box{E:Env}{id:Id}{fr:Bool}{c:aB}(h:xk E id fr c)(hn:c.iS=false):SF E id fr c:=by cases c <;> first | exact h | (simp[aB.iS]at hn)
theorem SF.obj{E:Env}{id:Id}{fr:Bool}{c:aB}(h:SF E id fr c):xk E id fr c:=by cases c <;> first | exact h | (obtain⟨_,_,_,_,_,_,_,hv⟩:=h;simp only[aB.strip,V]at hv)
def iZ(E:Env):Prop:=∀id ver fr c,E.s id=some (.obj ver fr c)->xk E id fr c
structure Trans(w w':World)(g g':Nat->mz):Prop where
 os:w'.os=w.os
 tape:w'.tape=w.tape
 output:w'.output=w.output/\w.drawn<=w'.drawn
 size:w.heap.size<=w'.heap.size
 SX:∀b,b < w.heap.size->match g b with
  | .free=>g' b= .free/\w'.heap[b]? =w.heap[b]?
  | .own .eo k=>g' b= .own .eo k/\w'.heap[b]? =w.heap[b]?
  | .own (.id _) k=>(g' b= .free\/∃i k',g' b= .own (.id i) k'/\k<=k')/\∀off v,off < k->w.cell? ⟨b,off,none⟩=some v->w'.cell? ⟨b,off,none⟩=some v
theorem Trans.refl(w:World)(g:Nat->mz):Trans w w g g:=
 ⟨rfl,rfl,⟨rfl,ax _⟩,ax _,λb _=>by
  cases g b with
  |free=>exact⟨rfl,rfl⟩
  |own o k=>cases o with
   |eo=>exact⟨rfl,rfl⟩
   |id i=>exact⟨.inr ⟨i,k,rfl,ax _⟩,λ_ _ _ h=>h⟩⟩
theorem Trans.trans{w w' w'':World}{g g' g'':Nat->mz}(h:Trans w w' g g')(h':Trans w' w'' g' g''):Trans w w'' g g'':=by
 refine⟨h'.os.trans h.os,h'.tape.trans h.tape,⟨h'.output.1.trans h.output.1,iw h.output.2 h'.output.2⟩,iw h.size h'.size,λb hb=> ?_⟩;have h1:=h.SX b hb;have h2:=h'.SX b (Nat.lt_of_lt_of_le hb h.size);cases hg:g b with
 |free=>
  rw[hg]at h1;simp only at h1 ⊢;rw[h1.1]at h2;simp only at h2;exact⟨h2.1,h2.2.trans h1.2⟩
 |own o k=>
  cases o with
  |eo=>
   rw[hg]at h1;simp only at h1 ⊢;rw[h1.1]at h2;simp only at h2;exact⟨h2.1,h2.2.trans h1.2⟩
  |id i=>
   rw[hg]at h1;simp only at h1 ⊢;obtain⟨aRg,aVl⟩:=h1;rcases aRg with aRg | ⟨i',k',aRg,hk⟩
   ·rw[aRg]at h2;simp only at h2;exact⟨.inl h2.1,λoff v ho hv=>by
     have:=aVl off v ho hv;simpa only[World.cell?,h2.2]using this⟩
   ·rw[aRg]at h2;simp only at h2;refine⟨?_,λoff v ho hv=>h2.2 off v ak (aVl off v ho hv)⟩;rcases h2.1 with aTx | ⟨i'',k'',aTx,hk'⟩
    ·exact .inl aTx
    ·exact .inr ⟨i'',k'',aTx,ak⟩
theorem Trans.mem{E E':Env}(h:Trans E.w E'.w E.g E'.g):uf E E':=by
 refine⟨?_,λb ob hf ho=>by
  have h1:=h.SX b (bP.1 ho).1;rw[hf]at h1;exact⟨h1.1,h1.2.trans ho⟩⟩
 intro b off v ⟨hc,ho⟩;have hb:b < E.w.heap.size:=World.block_lt_of_cell? _ _ hc;have h1:=h.SX b hb;unfold Env.has vk at*;cases hg:E.g b with
 |free=>
  rw[hg]at h1;simp only at h1;refine⟨?_,by rw[h1.1];trivial⟩;simpa only[World.cell?,h1.2]using hc
 |own o k=>
  rw[hg]at ho;simp only at ho;cases o with
  |eo=>
   rw[hg]at h1;simp only at h1;refine⟨?_,by rw[h1.1];exact ho⟩;simpa only[World.cell?,h1.2]using hc
  |id i=>
   rw[hg]at h1;simp only at h1;refine⟨h1.2 off v ho hc,?_⟩;rcases h1.1 with h2 | ⟨i',k',h2,hk⟩
   ·rw[h2];trivial
   ·rw[h2];show off < k';omega
theorem EY.mono{E E':Env}(h:cM E E'){f:aB}{tmps:Array Value}(hs:EY E f tmps):EY E' f tmps:=⟨hs.1,λi=>(hs.2 i).mono h⟩
theorem xk.aNM{E E':Env}(h:cM E E'){id:Id}{fr:Bool}{c:aB}(ho:xk E id fr c)(hβ:E'.β id=E.β id)
    (hb:∀pl,E.β id=some pl->E'.w.heap[pl.b]? =E.w.heap[pl.b]? /\E'.g pl.b=E.g pl.b)
    (hq:∀q ver k v l,(∃kt vt rest cu,c= .tC q (ver+1) kt vt rest cu)->E.s q=some (.obj ver true (.mp k v l))->E'.cur q ver->(∃k v l,E'.s q=some (.obj ver true (.mp k v l)))/\∀pl,E.β q=some pl->E'.w.heap[pl.b]? =E.w.heap[pl.b]? /\E'.g pl.b=E.g pl.b):xk E' id fr c:=by
  by_cases hn:c.iS=false
  · obtain⟨pl,cur,e,h1,h2,h3,h5,h4⟩:=ho.box hn
    obtain⟨b1,b2⟩:=hb pl h1;exact SF.obj ⟨pl,cur,e,by rw[hβ,h1],by rw[b1,h2],by rw[b2,h3],h5,h4.mono h⟩
  · cases c <;> first
      | (exact absurd rfl hn)
      | (obtain⟨pl,r,h1,h2,h3,h4,h5,h6⟩:=ho
         obtain⟨b1,b2⟩:=hb pl h1;exact⟨pl,r,by rw[hβ,h1],by rw[b1,h2],by rw[b2,h3],h4,h5.mono h,h6⟩)
      | (obtain⟨pl,es,clock,h1,h2,h3,h4⟩:=ho
         obtain⟨b1,b2⟩:=hb pl h1;exact⟨pl,es,clock,by rw[hβ,h1],by rw[b1,h2],by rw[b2,h3],⟨h4.1.1.mono h.mem,h4.1.2⟩,h4.2⟩)
      | (obtain⟨pl,mb,since,seen,c0,h1,h2,h3,hv⟩:=ho
         obtain⟨b1,b2⟩:=hb pl h1;refine⟨pl,mb,since,seen,c0,by rw[hβ,h1],by rw[b1,h2],by rw[b2,h3],λvr aqs=> ?_⟩;obtain⟨h4,h5⟩:=hv vr aqs;refine⟨h.G1 _ _ h4,λhc=> ?_⟩;obtain⟨c1,e1⟩:=h.cur _ _ h4 hc;obtain⟨⟨k,v,l,hk⟩,plq,es,clock,g1,g2,g3,g4,g5,g6,g7,g8,g9⟩:=h5 c1;obtain⟨q1,q2⟩:=hq _ _ _ _ _ ⟨_,_,_,_,by rw[aqs]⟩ hk hc;obtain⟨q3,q4⟩:=q2 plq g1;exact⟨q1,plq,es,clock,by rw[e1,g1],g2,by rw[q3,g3],by rw[q4,g4],g5,g6,g7,g8.mono h.mem,λx hx=>
           let⟨e,se,a1,a2,a3,a4⟩:=g9 x hx
           ⟨e,se,a1,a2,a3,a4.mono h.mem⟩⟩)
      |skip
    rename_i e t l;obtain⟨hz,ho⟩:=ho;refine⟨hz,?_⟩;rw[hβ];cases hp:E.β id with
    |none=>rw[hp]at ho;exact ho
    |some pl=>
      rw[hp]at ho;simp only at ho ⊢;obtain⟨b1,b2⟩:=hb pl hp;obtain⟨cur,k,h1,h2,h3,h4,h5,h6,h7,h8⟩:=ho;exact⟨cur,k,by rw[b1,h1],h2,h3,h4,by rw[b2,h5],h6,h7,h8.mono λc x hx=>hx.mono h.mem⟩
theorem xk.mono{E E':Env}(h:cM E E'){id:Id}{fr:Bool}{c:aB}(ho:xk E id fr c)(hβ:E'.β id=E.β id)(hb:∀pl,E.β id=some pl->E'.w.heap[pl.b]? =E.w.heap[pl.b]? /\E'.g pl.b=E.g pl.b)(hq:∀q ver k v l,E.s q=some (.obj ver true (.mp k v l))->E'.cur q ver->(∃k v l,E'.s q=some (.obj ver true (.mp k v l)))/\∀pl,E.β q=some pl->E'.w.heap[pl.b]? =E.w.heap[pl.b]? /\E'.g pl.b=E.g pl.b):xk E' id fr c:=ho.aNM h hβ hb λq ver k v l _=>hq q ver k v l
def AS.env(s:AS)(w:World)(g:Nat->mz)(β:Id->Option Pl):Env:= {w,g,β,s:=s.bW}
structure Ctx where
 E:Env
def Ctx.ok(C:Ctx):Prop:=(∀i j,C.E.s (.new i j)=none)/\∀k v fr c,C.E.s (.bm k)=some (.obj v fr c)->v=0
def vK(D:Nat):Deferred:= {target:= .collected D,args:= #[]}
def auY(n:Nat)(ds:List Deferred)(w:World)(g:Nat->mz):Prop:=ds.Nodup/\∀d∈ds,∃D,d=vK D/\n<=D/\w.heap[D]? =some (.deferred (some []))/\g D= .own .eo 0
theorem auY.mono{n:Nat}{ds:List Deferred}{w w':World}{g g':Nat->mz}(h:auY n ds w g)(ht:Trans w w' g g'):auY n ds w' g':=
 ⟨h.1,λd hd=>by
  obtain⟨D,h1,h2,h3,h4⟩:=h.2 d hd;have:=ht.SX D (bP.1 h3).1;rw[h4]at this;exact⟨D,h1,h2,this.2.trans h3,this.1⟩⟩
structure Inv(C:Ctx)(g:Nat->mz)(β:Id->Option Pl)(s:AS)(a:Act)(w:World):Prop where
 defers:auY C.E.w.heap.size a.defers w g
 size:a.tmps.size=s.ct.length
 ct:∀i,VS (s.env w g β) (s.slot i) (a.tmps.getD i undef)
 bJ:iZ (s.env w g β)
 trans:Trans C.E.w w C.E.g g
 le:cM C.E (s.env w g β)
def iB(C:Ctx)(s:AS)(a:Act)(w:World):Prop:=∃g β,Inv C g β s a w
theorem acH(s:AS)(d:Nat)(v:aB)(i:Nat):(s.put (some d) v).slot i=if i=d/\d < s.ct.length then v else s.slot i:=by
 simp only[AS.put,AS.slot,aH,List.getElem?_set];by_cases h:d=i
 ·subst h;by_cases hl:d < s.ct.length
  ·simp[hl]
  ·simp[hl]
 ·simp[h,Ne.symm h]
@[simp] theorem Kx(s:AS)(d:Option Tmp)(v:aB):(s.put d v).bW=s.bW:=by cases d <;> rfl
@[simp] theorem aiF(s:AS)(d:Option Tmp)(v:aB)(w:World)(g:Nat->mz)(β:Id->Option Pl):(s.put d v).env w g β=s.env w g β:=by simp[AS.env]
theorem apV(a:Act)(d:Nat)(v:Value)(i:Nat):(a.put (some d) v).tmps.getD i undef=if i=d/\d < a.tmps.size then v else a.tmps.getD i undef:=by
 simp only[Act.put,cI,dT];by_cases h:d=i
 ·subst h;by_cases hl:d < a.tmps.size
  ·simp[hl]
  ·simp[hl]
 ·simp[h,Ne.symm h]
theorem Inv.put{C:Ctx}{g:Nat->mz}{β:Id->Option Pl}{s:AS}{a:Act}{w:World}(h:Inv C g β s a w)(d:Option Tmp){v:aB}{x:Value}(hv:VS (s.env w g β) v x):
  Inv C g β (s.put d v) (a.put d x) w:=by
 cases d with
 |none=>exact h
 |some d=>
  refine⟨h.defers,by simpa[Act.put,AS.put]using h.size,λi=> ?_,by simpa using h.bJ,h.trans,by simpa using h.le⟩;rw[aiF,acH,apV,h.size];split
  ·exact hv
  ·exact h.ct i
theorem Inv.step{C:Ctx}{g g':Nat->mz}{β β':Id->Option Pl}{s s':AS}{a:Act}{w w':World}(h:Inv C g β s a w)(hs:s'.ct=s.ct)
  (ht:Trans w w' g g') (he:cM (s.env w g β) (s'.env w' g' β')) (ho:iZ (s'.env w' g' β')):Inv C g' β' s' a w':=
 ⟨h.defers.mono ht,by rw[hs];exact h.size,λi=>by
  have:s'.slot i=s.slot i:=by simp[AS.slot,hs]
  rw[this];exact(h.ct i).mono he,ho,h.trans.trans ht,h.le.trans he⟩
theorem aCt{E:Env}(v:Value):VS E (ofConst v) v:=by
 cases v with
 |bool b=>exact⟨_,by simp[ofConst,V,df],rfl⟩
 |int k n=>exact⟨_,by simp[ofConst,V,df],rfl⟩
 |string s=>exact⟨_,by simp[ofConst,V,df],rfl⟩
 |slice a l c=>cases a with
  |none=>
   cases l with
   |zero=>cases c with
    |zero=>exact⟨_,by simp[ofConst,V],rfl⟩
    |succ _=>trivial
   |succ _=>trivial
  |some _=>trivial
 |pointer a=>cases a with
  |none=>exact⟨_,by simp[ofConst,V],rfl⟩
  |some _=>trivial
 |map r=>cases r with
  |none=>exact⟨_,by simp[ofConst,V],rfl⟩
  |some _=>trivial
 |nilFunc=>exact⟨_,by simp[ofConst,V],rfl⟩
 |_=>trivial
theorem Inv.ev{C:Ctx}{g:Nat->mz}{β:Id->Option Pl}{s:AS}{a:Act}{w:World}(h:Inv C g β s a w)(x:Operand):VS (s.env w g β) (s.ev x) (a.eval x):=by
 cases x with
 |tmp t=>exact h.ct t
 |const v=>exact aCt v
 |func f=>exact⟨_,by simp only[AS.ev,V];exact⟨[],rfl,by simp[VC]⟩,rfl⟩
 |global _=>trivial
theorem eH(s:AS)(id:Id)(e:dE)(h:s.bW id≠none):(s.bl id e).bW id=some e:=by
 cases id with
 |bm k=>
  simp only[AS.bW,AS.bl]at*;have hk:k < s.bZ.length:=by
   rcases qk k s.bZ.length with h' | h'
   ·exact h'
   ·exact absurd (dG h') h
  simp[hk]
 |new i j=>
  simp only[AS.bW,AS.bl]at*;have hj:j < (s.news.getD i []).length:=by
   rcases qk j (s.news.getD i []).length with h' | h'
   ·exact h'
   ·exact absurd (dG h') h
  have hi:i < s.news.length:=by
   rcases qk i s.news.length with h' | h'
   ·exact h'
   ·simp[dG h']at hj
  have:((s.news.set i ((s.news.getD i []).set j e)).getD i [])=(s.news.getD i []).set j e:=by simp[aH,hi]
  rw[this];simp only[List.getElem?_set,hj,bG]
theorem cX(s:AS)(id id':Id)(e:dE)(h:id'≠id):(s.bl id e).bW id'=s.bW id':=by
 cases id with
 |bm k=>
  cases id' with
  |bm k'=>
   simp only[AS.bW,AS.bl];rw[ea (λe=>h (by rw[e]))]
  |new i j=>rfl
 |new i j=>
  cases id' with
  |bm k'=>rfl
  |new i' j'=>
   simp only[AS.bW,AS.bl];by_cases hi:i'=i
   ·subst hi;have hj:j≠j':=λe=>h (by rw[e])
    by_cases hl:i' < s.news.length
    ·have:((s.news.set i' ((s.news.getD i' []).set j e)).getD i' [])=(s.news.getD i' []).set j e:=by simp[aH,hl]
     rw[this,ea hj]
    ·rw[List.set_eq_of_length_le ak]
   ·have:(s.news.set i ((s.news.getD i []).set j e)).getD i' []=s.news.getD i' []:=by simp only[aH];rw[ea (Ne.symm hi)]
    rw[this]
@[simp] theorem dj(s:AS)(id:Id)(e:dE):(s.bl id e).ct=s.ct:=by cases id <;> rfl
@[simp] theorem aPY(s:AS)(i:Nat)(es:List dE):(s.born i es).ct=s.ct:=rfl
theorem ee{s:AS}{id:Id}{v:Nat}{fr:Bool}{c:aB}(h:s.obj id=some (v,fr,c)):s.bW id=some (.obj v fr c):=by
 unfold AS.obj at h;split at h
 ·rename_i h';simp at h;obtain⟨rfl,rfl,rfl⟩:=h;exact h'
 ·cases h
theorem cM.bl{s:AS}{w w':World}{g g':Nat->mz}{β β':Id->Option Pl}{id:Id}{v v':Nat}{fr fr':Bool}{c c':aB}(hs:s.bW id=some (.obj v fr c))(hv:v<=v')
  (ht:Trans w w' g g') (hβ:∀i,i≠id->β' i=β i) (hβ':v'=v->β' id=β id):cM (s.env w g β) ((s.bl id (.obj v' fr' c')).env w' g' β'):=by
 have lI:=eH s id (.obj v' fr' c') (by rw[hs];simp);refine⟨Trans.mem ht,λi ver hb=> ?_,λi ver hb hc=> ?_⟩
 ·by_cases hi:i=id
  ·subst hi;obtain⟨_,h2⟩:=hb;refine⟨by show(s.bl i (.obj v' fr' c')).bW i≠none;rw[lI];simp,λv'' fr'' c'' he=> ?_⟩;have he':(s.bl i (.obj v' fr' c')).bW i=some (.obj v'' fr'' c''):=he;rw[lI]at he';simp only[az,dE.obj.injEq]at he';have:=h2 v fr c hs;omega
  ·have:=cX s id i (.obj v' fr' c') hi;obtain⟨h1,h2⟩:=hb;exact⟨by show(s.bl id (.obj v' fr' c')).bW i≠none;rw[this];exact h1,λv'' fr'' c'' he=>h2 v'' fr'' c'' (this.symm.trans he)⟩
 ·obtain⟨fr'',c'',hc⟩:=hc;by_cases hi:i=id
  ·subst hi;have hc':(s.bl i (.obj v' fr' c')).bW i=some (.obj ver fr'' c''):=hc;rw[lI]at hc';simp only[az,dE.obj.injEq]at hc';have h2:=hb.2 v fr c hs;have e:v'=v:=ak;refine⟨⟨fr,c,?_⟩,hβ' e⟩;rw[<-hc'.1,e];exact hs
  ·have hc':(s.bl id (.obj v' fr' c')).bW i=some (.obj ver fr'' c''):=hc;rw[cX s id i _ hi]at hc';exact⟨⟨fr'',c'',hc'⟩,hβ i hi⟩
theorem iZ.bl{s:AS}{w w':World}{g g':Nat->mz}{β β':Id->Option Pl}{id:Id}{v':Nat}{fr':Bool}{c':aB}(h:iZ (s.env w g β))(gF:s.bW id≠none)
  (he:cM (s.env w g β) ((s.bl id (.obj v' fr' c')).env w' g' β')) (hβ:∀i,i≠id->β' i=β i)
  (hb:∀i ver fr c pl,i≠id->s.bW i=some (.obj ver fr c)->β i=some pl->w'.heap[pl.b]? =w.heap[pl.b]? /\g' pl.b=g pl.b)
  (ho:xk ((s.bl id (.obj v' fr' c')).env w' g' β') id fr' c')
  (ald:∀ver k v l,s.bW id=some (.obj ver true (.mp k v l))->v'=ver/\fr'=true/\(∃k v l,c'= .mp k v l)/\∀pl,β id=some pl->w'.heap[pl.b]? =w.heap[pl.b]? /\g' pl.b=g pl.b):iZ ((s.bl id (.obj v' fr' c')).env w' g' β'):=by
 intro i ver fr c hi;by_cases cY:i=id
 ·subst cY;have hi':(s.bl i (.obj v' fr' c')).bW i=some (.obj ver fr c):=hi;rw[eH s i _ gF]at hi';simp only[az,dE.obj.injEq]at hi';obtain⟨rfl,rfl,rfl⟩:=hi';exact ho
 ·have hi':(s.bl id (.obj v' fr' c')).bW i=some (.obj ver fr c):=hi;rw[cX s id i _ cY]at hi';refine(h i ver fr c hi').mono he (hβ i cY) (λpl hp=>hb i ver fr c pl cY hi' hp) λq vq k v l hq hc=> ?_
  have hq:s.bW q=some (.obj vq true (.mp k v l)):=hq;by_cases aT9:q=id
  ·subst aT9;obtain⟨rfl,rfl,⟨k',v',l',rfl⟩,aQv⟩:=ald _ _ _ _ hq;exact⟨⟨k',v',l',eH s q _ gF⟩,aQv⟩
  ·exact⟨⟨k,v,l,by show(s.bl id _).bW q=_;rw[cX s id q _ aT9];exact hq⟩,λpl hp=>hb q vq true _ pl aT9 hq hp⟩
theorem X4{s:AS}{w:World}{g:Nat->mz}{β:Id->Option Pl}{id:Id}{v:Nat}{fr:Bool}{c:aB}(hs:s.bW id=some (.obj v fr c)):
  ∀ver k v1 l,s.bW id=some (.obj ver true (.mp k v1 l))->v=ver/\true=true/\(∃k v l,c= .mp k v l)/\∀pl,β id=some pl->w.heap[pl.b]? =w.heap[pl.b]? /\g pl.b=g pl.b:=λver k v1 l hl=>by
 rw[hs]at hl;cases hl;exact⟨rfl,rfl,⟨_,_,_,rfl⟩,λ_ _=>⟨rfl,rfl⟩⟩
theorem qz{s:AS}{id:Id}{v:Nat}{fr:Bool}{c:aB}(hs:s.bW id=some (.obj v fr c))(hc:∀k v1 l,c≠ .mp k v1 l){Q:Nat->Prop}:
  ∀ver k v1 l,s.bW id=some (.obj ver true (.mp k v1 l))->Q ver:=λver k v1 l hl=>by
 rw[hs]at hl;cases hl;exact absurd rfl (hc _ _ _)
theorem QT{s:AS}{id:Id}{v:Nat}{c:aB}(hs:s.bW id=some (.obj v false c)){Q:Nat->Prop}:
  ∀ver k v1 l,s.bW id=some (.obj ver true (.mp k v1 l))->Q ver:=λver k v1 l hl=>by
 rw[hs]at hl;cases hl
theorem Ka{s:AS}{id:Id}{v:Nat}{fr:Bool}{c:aB}(hs:s.bW id=some (.obj v fr c))(h:s.vg id=true):fr=false:=by
 have e:s.obj id=some (v,fr,c):=by simp[AS.obj,hs]
 unfold AS.vg at h;rw[e]at h;simpa using h
theorem xk.label{E:Env}{id:Id}{fr:Bool}{c:aB}(h:xk E id fr c){pl:Pl}(hp:E.β id=some pl):
    pl.b < E.w.heap.size/\((∃k,E.g pl.b= .own (.id id) k)\/(fr=true/\E.g pl.b= .free)):=by
  by_cases hn:c.iS=false
  · obtain⟨pl',cur,e,h1,h2,h3,h4⟩:=h.box hn
    rw[hp]at h1;obtain rfl:pl=pl':=by simpa using h1
    refine⟨(bP.1 h2).1,?_⟩;cases fr with
    |true=>exact .inr ⟨rfl,h3⟩
    |false=>exact .inl ⟨0,h3⟩
  · cases c <;> first
      | (exact absurd rfl hn)
      | (obtain⟨pl',r,h1,h2,h3,_,_,_⟩:=h
         rw[hp]at h1;obtain rfl:pl=pl':=by simpa using h1
         exact⟨(bP.1 h2).1,.inl ⟨0,h3⟩⟩)
      | (obtain⟨pl',es,clock,h1,h2,h3,_⟩:=h
         rw[hp]at h1;obtain rfl:pl=pl':=by simpa using h1
         exact⟨(bP.1 h2).1,.inl ⟨0,h3⟩⟩)
      | (obtain⟨pl',mb,since,seen,c0,h1,h2,h3,_⟩:=h
         rw[hp]at h1;obtain rfl:pl=pl':=by simpa using h1
         exact⟨(bP.1 h2).1,.inl ⟨0,h3⟩⟩)
      |skip
    obtain⟨_,h⟩:=h;rw[hp]at h;obtain⟨cur,k,h1,_,_,_,h5,_⟩:=h;exact⟨(bP.1 h1).1,.inl ⟨k,h5⟩⟩
def nT{α:Type}(f:Nat->α)(b:Nat)(x:α):Nat->α:=λb'=>if b'=b then x else f b'
@[simp] theorem fH{α:Type}(f:Nat->α)(b:Nat)(x:α):nT f b x b=x:=by simp[nT]
theorem fA{α:Type}(f:Nat->α)(b:Nat)(x:α){b':Nat}(h:b'≠b):nT f b x b'=f b':=by simp[nT,h]
def Z8:aB->Nat->Prop
 | .vec _ t l,j=>j < l.length*t.size
 |_,_=>True
theorem Z8.of{c:aB}(h:c.iS=false)(j:Nat):Z8 c j:=by cases c <;> first | trivial | (simp[aB.iS]at h)
theorem aDq{w:World}{b:Nat}{es:Array MapEntry}{clock:Nat}(h:w.heap[b]? =some (.map es clock))(j:Nat):w.cell? ⟨b,j,none⟩=none:=by simp[World.cell?,h]
theorem aiS{C:Ctx}{g:Nat->mz}{β:Id->Option Pl}{s:AS}{a:Act}{w:World}(h:Inv C g β s a w)(id:Id):
    ∃g',Inv C g' β (s.freeze id) a w/\cM (s.env w g β) ((s.freeze id).env w g' β)/\Trans w w g g'/\
      (∀v fr c,s.bW id=some (.obj v fr c)->∀pl,β id=some pl->∀j x,w.cell? ⟨pl.b,j,none⟩=some x->
        Z8 c j->vk g' pl.b j):=by
  unfold AS.freeze;cases hs:s.bW id with
  |none=>exact⟨g,h,cM.refl _,Trans.refl _ _,λ_ _ _ hh=>by cases hh⟩
  |some e=>
    cases e with
    |dead=>exact⟨g,h,cM.refl _,Trans.refl _ _,λ_ _ _ hh=>by cases hh⟩
    |obj v fr c=>
      simp only;have ml:xk (s.env w g β) id fr c:=h.bJ id v fr c hs;cases hp:β id with
      |none=>
        have ht:=Trans.refl w g;have he:cM (s.env w g β) ((s.bl id (.obj v true c)).env w g β):=cM.bl hs (ax _) ht (λ_ _=>rfl) (λ_=>rfl);refine⟨g,h.step (dj _ _ _) ht he ?_,he,ht,λ_ _ _ _ pl Pd=>by cases Pd⟩;refine iZ.bl h.bJ (by rw[hs];simp) he (λ_ _=>rfl) (λ_ _ _ _ _ _ _ _=>⟨rfl,rfl⟩) ?_ (X4 hs)
        by_cases hn:c.iS=false
        · obtain⟨pl,_,_,h1,_⟩:=ml.box hn
          have h1':β id=some pl:=h1;rw[hp]at h1';cases h1'
        · cases c <;> first
            | (exact absurd rfl hn)
            | (obtain⟨pl,_,h1,_⟩:=ml
               have h1':β id=some pl:=h1;rw[hp]at h1';cases h1')
            | (obtain⟨pl,_,_,h1,_⟩:=ml
               have h1':β id=some pl:=h1;rw[hp]at h1';cases h1')
            | (obtain⟨pl,_,_,_,_,h1,_⟩:=ml
               have h1':β id=some pl:=h1;rw[hp]at h1';cases h1')
            |skip
          obtain⟨hz,ho⟩:=ml;have ho':(match β id with
            |none=>_
            |some pl=>_):=ho
          refine⟨hz,?_⟩;show(match β id with
            |none=>_
            |some pl=>_)
          rw[hp]at ho' ⊢;exact ho'
      |some pl=>
        have aRI:=ml.label (pl:=pl) hp;by_cases hn:c.iS=false
        · obtain⟨pl',cur,e,h1,h2,h3,h5,h4⟩:=ml.box hn
          have h1':β id=some pl':=h1;rw[hp]at h1';obtain rfl:pl=pl':=by simpa using h1'
          have h3':g pl.b=ara id fr:=h3;have ht:Trans w w g (nT g pl.b .free):=by
            refine⟨rfl,rfl,⟨rfl,ax _⟩,ax _,λb hb=> ?_⟩;by_cases aiX:b=pl.b
            · subst aiX
              rw[h3',fH];cases fr with
              |true=>exact⟨rfl,rfl⟩
              |false=>exact⟨.inl rfl,λ_ _ _ hh=>hh⟩
            · rw[fA _ _ _ aiX]
              exact(Trans.refl w g).SX b hb
          have he:cM (s.env w g β) ((s.bl id (.obj v true c)).env w (nT g pl.b .free) β):=cM.bl hs (ax _) ht (λ_ _=>rfl) (λ_=>rfl);refine⟨nT g pl.b .free,h.step (dj _ _ _) ht he ?_,he,ht,?_⟩
          · refine iZ.bl h.bJ (by rw[hs];simp) he (λ_ _=>rfl) (λi ver fr' c' pl' hi cQ Pd=>⟨rfl,?_⟩) ?_ (qz hs λk v1 l e=>by rw[e]at hn;simp[aB.iS]at hn)
            · by_cases aiX:pl'.b=pl.b
              · rw[aiX,fH]
                have hl:=(h.bJ i ver fr' c' cQ).label (pl:=pl') Pd;have ar5:(∃k,g pl'.b= .own (.id i) k)\/(fr'=true/\g pl'.b= .free):=hl.2;rw[aiX,h3']at ar5;cases fr with
                |true=>exact h3'.symm▸rfl
                |false=>
                  exfalso;rcases ar5 with⟨k,hk⟩ | ⟨_,hk⟩
                  · simp only[ara,mz.own.injEq,Own.id.injEq]at hk
                    exact hi hk.1.symm
                  · cases hk
              · rw[fA _ _ _ aiX]
            · exact SF.obj ⟨pl,cur,e,hp,h2,fH _ _ _,h5,V.mono he h4⟩
          · intro v1 fr1 c1 hh pl1 ai2 j x hx hj
            obtain rfl:pl=pl1:=by simpa using ai2
            unfold vk;rw[fH];trivial
        · cases c <;> first | (exact absurd rfl hn) | skip
          rotate_left;rotate_left
          · rename_i q vq kt vt rest cu
            have ht:=Trans.refl w g;have he:cM (s.env w g β) ((s.bl id (.obj v true (.tC q vq kt vt rest cu))).env w g β):=cM.bl hs (ax _) ht (λ_ _=>rfl) (λ_=>rfl);have hob':=ml;obtain⟨pl',mb,since,seen,c0,h1,h2,_⟩:=ml;have h1':β id=some pl':=h1;rw[hp]at h1';obtain rfl:pl=pl':=by simpa using h1'
            refine⟨g,h.step (dj _ _ _) ht he ?_,he,ht,λ_ _ _ _ pl1 ai2 j x hx _=> ?_⟩
            · refine iZ.bl h.bJ (by rw[hs];simp) he (λ_ _=>rfl) (λ_ _ _ _ _ _ _ _=>⟨rfl,rfl⟩) ?_ (X4 hs)
              exact xk.mono he (fr:=true) hob' rfl (λ_ _=>⟨rfl,rfl⟩) λq2 v2 k2 v3 l2 Tq _=>⟨⟨k2,v3,l2,by
                have Tq:s.bW q2=some (.obj v2 true (.mp k2 v3 l2)):=Tq;have gF:q2≠id:=λe=>by rw[e,hs]at Tq;cases Tq
                show(s.bl id _).bW q2=_;rw[cX s id q2 _ gF];exact Tq⟩,λ_ _=>⟨rfl,rfl⟩⟩
            · obtain rfl:pl=pl1:=by simpa using ai2
              have h2:w.heap[pl.b]? =some (.mapIter (some mb) since seen c0):=h2
              simp[World.cell?,h2]at hx
          · rename_i k f p
            have ht:=Trans.refl w g;have he:cM (s.env w g β) ((s.bl id (.obj v true (.rP k f p))).env w g β):=cM.bl hs (ax _) ht (λ_ _=>rfl) (λ_=>rfl);obtain⟨pl',r,h1,h2,h3,h4,h5,h6⟩:=ml;have h1':β id=some pl':=h1;rw[hp]at h1';obtain rfl:pl=pl':=by simpa using h1'
            refine⟨g,h.step (dj _ _ _) ht he ?_,he,ht,λ_ _ _ _ pl1 ai2 j x hx _=> ?_⟩
            · exact iZ.bl h.bJ (by rw[hs];simp) he (λ_ _=>rfl) (λ_ _ _ _ _ _ _ _=>⟨rfl,rfl⟩) ⟨pl,r,hp,h2,h3,h4,h5.mono he,h6⟩ (X4 hs)
            · obtain rfl:pl=pl1:=by simpa using ai2
              have h2:w.heap[pl.b]? =some (.loop r):=h2
              simp[World.cell?,h2]at hx
          rotate_left
          · obtain⟨pl',es,clock,h1,h2,h3,h4⟩:=ml
            have h1':β id=some pl':=h1;rw[hp]at h1';obtain rfl:pl=pl':=by simpa using h1'
            have ht:=Trans.refl w g;rename_i kt vt l;have he:cM (s.env w g β) ((s.bl id (.obj v true (.mp kt vt l))).env w g β):=cM.bl hs (ax _) ht (λ_ _=>rfl) (λ_=>rfl);refine⟨g,h.step (dj _ _ _) ht he ?_,he,ht,λ_ _ _ _ pl1 ai2 j x hx _=> ?_⟩
            · exact iZ.bl h.bJ (by rw[hs];simp) he (λ_ _=>rfl) (λ_ _ _ _ _ _ _ _=>⟨rfl,rfl⟩) ⟨pl,es,clock,hp,h2,h3,⟨h4.1.1.mono he.mem,h4.1.2⟩,h4.2⟩ (X4 hs)
            · obtain rfl:pl=pl1:=by simpa using ai2
              have h2:w.heap[pl.b]? =some (.map es clock):=h2
              rw[aDq h2]at hx;cases hx
          rename_i e t l;obtain⟨hz,ho⟩:=ml;have ho':(match β id with
            |none=>l=[]
            |some pl=>∃cur k,w.heap[pl.b]? =some (.cells cur e (0,0))/\cur.size=pl.cap*t.size/\l.length<=pl.cap/\pl.cap<=maxLen/\g pl.b= .own (.id id) k/\
                k<=l.length*t.size/\(fr=false->k=0)/\bD (df (s.env w g β) t) (cur.toList.take (l.length*t.size)) l):=ho
          rw[hp]at ho';obtain⟨cur,k,h1,h2,h3,h4,h5,h6,h7,h8⟩:=ho';have ht:Trans w w g (nT g pl.b (.own (.id id) (l.length*t.size))):=by
            refine⟨rfl,rfl,⟨rfl,ax _⟩,ax _,λb hb=> ?_⟩;by_cases aiX:b=pl.b
            · subst aiX
              rw[h5,fH];exact⟨.inr ⟨id,_,rfl,h6⟩,λ_ _ _ hh=>hh⟩
            · rw[fA _ _ _ aiX]
              exact(Trans.refl w g).SX b hb
          have he:cM (s.env w g β) ((s.bl id (.obj v true (.vec e t l))).env w (nT g pl.b (.own (.id id) (l.length*t.size))) β):=cM.bl hs (ax _) ht (λ_ _=>rfl) (λ_=>rfl);refine⟨_,h.step (dj _ _ _) ht he ?_,he,ht,?_⟩
          · refine iZ.bl h.bJ (by rw[hs];simp) he (λ_ _=>rfl) (λi ver fr' c' pl' hi cQ Pd=>⟨rfl,?_⟩) ?_ (qz hs λk v1 l e=>by cases e)
            · by_cases aiX:pl'.b=pl.b
              · exfalso
                have hl:=(h.bJ i ver fr' c' cQ).label (pl:=pl') Pd;have ar5:(∃k,g pl'.b= .own (.id i) k)\/(fr'=true/\g pl'.b= .free):=hl.2;rw[aiX,h5]at ar5;rcases ar5 with⟨k,hk⟩ | ⟨_,hk⟩
                · simp only[mz.own.injEq,Own.id.injEq]at hk
                  exact hi hk.1.symm
                · cases hk
              · rw[fA _ _ _ aiX]
            · refine⟨hz,?_⟩
              show(match β id with
                |none=>l=[]
                |some pl=>_)
              rw[hp];exact⟨cur,_,h1,h2,h3,h4,fH _ _ _,ax _,(by intro hh;cases hh),h8.mono λc x hx=>hx.mono he.mem⟩
          · intro v1 fr1 c1 hh pl1 ai2 j x hx hj
            obtain rfl:pl=pl1:=by simpa using ai2
            simp only[az,dE.obj.injEq]at hh;obtain⟨_,_,rfl⟩:=hh;unfold vk;rw[fH];exact hj
end Go.Ab
namespace Go.Ab
def aQX(E E':Env)(ids:List Id):Prop:=∀id∈ids,∀v fr c,E.s id=some (.obj v fr c)->∀pl,E.β id=some pl->∀j x,E.w.cell? ⟨pl.b,j,none⟩=some x->Z8 c j->E'.has pl.b j x
theorem ZJ{s:AS}{id i:Id}{v:Nat}{fr:Bool}{c:aB}(h:s.bW i=some (.obj v fr c)):∃fr',(s.freeze id).bW i=some (.obj v fr' c):=by
 unfold AS.freeze;by_cases hi:i=id
 ·subst hi;rw[h];exact⟨true,eH s i _ (by rw[h];simp)⟩
 ·split
  ·exact⟨fr,by rw[cX s id i _ hi];exact h⟩
  ·exact⟨fr,h⟩
theorem fD{C:Ctx}{β:Id->Option Pl}{a:Act}{w:World}:∀(ids:List Id) {g:Nat->mz} {s:AS},Inv C g β s a w->
  ∃g',Inv C g' β (s.bB ids) a w/\cM (s.env w g β) ((s.bB ids).env w g' β)/\Trans w w g g'/\aQX (s.env w g β) ((s.bB ids).env w g' β) ids
 |[],g,s,h=>⟨g,h,cM.refl _,Trans.refl _ _,λ_ hi=>by cases hi⟩
 |id::ids,g,s,h=>by
  obtain⟨g1,h1,e1,t1,f1⟩:=aiS h id;obtain⟨g2,h2,e2,t2,f2⟩:=fD ids h1;refine⟨g2,h2,e1.trans e2,t1.trans t2,λi hi v fr c hs pl hp j x hx hj=> ?_⟩;rcases bY.1 hi with rfl | hi
  ·exact e2.mem.has _ _ _ ⟨hx,f1 v fr c hs pl hp j x hx hj⟩
  ·obtain⟨fr',hs'⟩:=ZJ (id:=id) hs;exact f2 i hi v fr' c hs' pl hp j x hx hj
theorem ako(s:AS)(id:Id):(s.freeze id).ct=s.ct:=by unfold AS.freeze;split <;> simp
theorem oo:∀(ids:List Id) (s:AS),(s.bB ids).ct=s.ct
 |[],_=>rfl
 |id::ids,s=>by rw[AS.bB,oo ids,ako]
theorem an6(s:AS)(id:Id)(q:Nat):(s.freeze id).dY q=s.dY q:=by
 unfold AS.freeze;split
 ·rename_i v b c h;cases id with
  |bm k=>rfl
  |new i j=>
   simp only[AS.bl,AS.dY];by_cases hq:i=q
   ·subst hq;simp only[AS.bW]at h;by_cases hl:i < s.news.length
    ·rw[List.getElem?_set_self hl,bU hl];rw[aH,bU hl]at h ⊢;simp only[dN]at h ⊢;cases hh:s.news[i]with
     |nil=>rw[hh]at h;simp at h
     |cons x xs=>cases j <;> simp[fX]
    ·rw[List.set_eq_of_length_le ak]
   ·rw[ea hq]
 ·rfl
theorem wc:∀(ids:List Id) (s:AS) (q:Nat),(s.bB ids).dY q=s.dY q
 |[],_,_=>rfl
 |id::ids,s,q=>by rw[AS.bB,wc ids,an6]
theorem aau{e:TypeId}{t:Ty}:∀ {p:List La} {n:Nat} {v:aB},(loc (.vec e t []) p).eval=some (n,v)->n=0/\v= .vec e t []
 |[],n,v,h=>by simp only[loc,ay,cE]at h;exact⟨h.1.symm,h.2.symm⟩
 | .arr::p,n,v,h=>by simp only[loc]at h;exact aau h
 | .idx i::p,n,v,h=>by simp[loc,bS]at h
 | .fst::p,n,v,h=>by simp only[loc,av]at h
 | .snd::p,n,v,h=>by simp only[loc,av]at h
theorem X7{k:vB}{f:aB}{m:Nat}:∀ {p:List La} {n:Nat} {v:aB},(loc (.rP k f m) p).eval=some (n,v)->n=0/\v= .rP k f m
 |[],n,v,h=>by simp only[loc,ay,cE]at h;exact⟨h.1.symm,h.2.symm⟩
 | .arr::p,n,v,h=>by simp only[loc]at h;exact X7 h
 | .idx i::p,n,v,h=>by simp only[loc,av]at h
 | .fst::p,n,v,h=>by simp only[loc,av]at h
 | .snd::p,n,v,h=>by simp only[loc,av]at h
theorem ajl{k t:Ty}{l:List (k.den×t.den)}:∀ {p:List La} {n:Nat} {v:aB},(loc (.mp k t l) p).eval=some (n,v)->n=0/\v= .mp k t l
 |[],n,v,h=>by simp only[loc,ay,cE]at h;exact⟨h.1.symm,h.2.symm⟩
 | .arr::p,n,v,h=>by simp only[loc]at h;exact ajl h
 | .idx i::p,n,v,h=>by simp only[loc,av]at h
 | .fst::p,n,v,h=>by simp only[loc,av]at h
 | .snd::p,n,v,h=>by simp only[loc,av]at h
theorem X6{q:Id}{ver:Nat}{k t:Ty}{l:List (k.den×t.den)}{cu:Option (k.den×t.den)}:∀ {p:List La} {n:Nat} {v:aB},(loc (.tC q ver k t l cu) p).eval=some (n,v)->n=0/\v= .tC q ver k t l cu
 |[],n,v,h=>by simp only[loc,ay,cE]at h;exact⟨h.1.symm,h.2.symm⟩
 | .arr::p,n,v,h=>by simp only[loc]at h;exact X6 h
 | .idx i::p,n,v,h=>by simp only[loc,av]at h
 | .fst::p,n,v,h=>by simp only[loc,av]at h
 | .snd::p,n,v,h=>by simp only[loc,av]at h
theorem Ue{E:Env}{s:AS}(hs:E.s=s.bW)(ho:iZ E){id:Id}{ver:Nat}{p:List La}{n:Nat}{t:Ty}{l:List t.den}(h:(s.row id ver p).eval=some (n,⟨t,l⟩)):
    ∃fr c,E.s id=some (.obj ver fr c)/\((E.β id=none/\l=[]/\n=0)\/∃pl cur e,E.β id=some pl/\E.w.heap[pl.b]? =some (.cells cur e (0,0))/\n+l.length*t.size<=cur.size/\
      bD (df E t) ((cur.toList.drop n).take (l.length*t.size)) l/\
      ∀j,j < n+l.length*t.size->Z8 c j):=by
  unfold AS.row at h;cases ml:s.obj id with
  |none=>rw[ml]at h;simp only[av]at h
  |some r=>
    obtain⟨v,fr,c⟩:=r;rw[ml]at h;obtain⟨h1,h2⟩:=aC.1 h;obtain⟨⟨n',v'⟩,h3,h4⟩:=aw.1 h2;have hv:v=ver:=by simpa using h1
    subst hv;have cQ:E.s id=some (.obj v fr c):=by rw[hs];exact ee ml
    refine⟨fr,c,cQ,?_⟩;have hO:=ho id v fr c cQ
    have ar1:∀(pl:Pl) (cur:Array Value) (e:TypeId) (m:Nat) (t':Ty) (l':List t'.den) (n':Nat),E.β id=some pl->E.w.heap[pl.b]? =some (.cells cur e (0,0))->c.iS=false->
        V E (.d (.arr m t') l') ((cur.toList.drop n').take (aB.d (.arr m t') l').size)->n'+(aB.d (.arr m t') l').size<=cur.toList.length->(Out.ok (n',(⟨t',l'⟩:(t:Ty)×List t.den))).eval=some (n,⟨t,l⟩)->
        ∃pl cur e,E.β id=some pl/\E.w.heap[pl.b]? =some (.cells cur e (0,0))/\n+l.length*t.size<=cur.size/\bD (df E t) ((cur.toList.drop n).take (l.length*t.size)) l/\
          ∀j,j < n+l.length*t.size->Z8 c j:=by
      intro pl cur e m t' l' n' hp hh hn hv hl he;simp only[ay,cE]at he;obtain⟨rfl,he⟩:=he;obtain⟨rfl,he⟩:=he;simp only[V,df]at hv;obtain⟨aPe,VE⟩:=hv;have tW:∀(t:Ty) (l:List t.den),l.length=m->(aB.d (.arr m t) l).size=l.length*t.size:=λt l hh=>by simp[aB.size,Ty.size,hh]
      rw[tW _ _ aPe]at VE hl;exact⟨pl,cur,e,hp,hh,by simpa using hl,VE,λj _=>Z8.of hn j⟩
    by_cases hn:c.iS=false
    · right
      obtain⟨pl,cur,e,hp,hh,hg,hk,hV⟩:=hO.box hn;have hN:=XO hk;generalize c.xW cur.size=N at hN hV;have hNl:(cur.toList.take N).length=N:=by rw[bp,cK];omega
      obtain⟨u,hu⟩:∃u,c.strip=u:=⟨_,rfl⟩;rw[hu]at hV h3;have ayR:∀m k:Nat,m+k<=(cur.toList.take N).length->((cur.toList.take N).drop m).take k=(cur.toList.drop m).take k/\m+k<=cur.toList.length:=λm k aLa=>by rw[hNl]at aLa;refine⟨?_,by rw[cK];omega⟩;rw[ue,eJ,dU ak]
      rcases tF p u (cur.toList.take N) n' v' (VO.of hV) h3 with⟨rfl,rfl⟩ | ⟨hV',hle⟩
      · cases v' with
        |d t' x=>cases t' with
          |arr m t'=>
            have hs:=hV.size;have hc:=ayR 0 (aB.d (.arr m t') x).size ak;refine ar1 pl cur e m t' x 0 hp hh hn ?_ hc.2 (by simpa only using h4)
            rw[<-hc.1,aD,aY ak];exact hV
          |_=>simp only[av]at h4
        |vec=>simp only[V]at hV
        |_=>simp only[av]at h4
      · cases v' with
        |d t' x=>cases t' with
          |arr m t'=>
            have hc:=ayR _ _ hle;exact ar1 pl cur e m t' x n' hp hh hn (by rw[<-hc.1];exact hV') hc.2 (by simpa only using h4)
          |_=>simp only[av]at h4
        |vec=>simp only[V]at hV'
        |_=>simp only[av]at h4
    · cases c <;> first
        | (exact absurd rfl hn)
        | (obtain⟨rfl,rfl⟩:=ajl h3
           simp only[av]at h4)
        | (obtain⟨rfl,rfl⟩:=X6 h3
           simp only[av]at h4)
        | (obtain⟨rfl,rfl⟩:=X7 h3
           simp only[av]at h4)
        |skip
      rename_i e t0 l0;obtain⟨hz,hO⟩:=hO;cases hp:E.β id with
      |none=>
        rw[hp]at hO;have aRH:l0=[]:=hO;subst aRH;obtain⟨rfl,rfl⟩:=aau h3;simp only[ay,cE]at h4;obtain⟨rfl,he⟩:=h4;obtain⟨rfl,he⟩:=he;exact .inl ⟨rfl,rfl,rfl⟩
      |some pl=>
        rw[hp]at hO;obtain⟨cur,k,q1,q2,q3,q4,q5,q6,q7,q8⟩:=hO;right;have hlen:(cur.toList.take (l0.length*t0.size)).length=l0.length*t0.size:=bD.length (λc x hx=>df.size hx) q8;have aFj:l0.length*t0.size<=cur.size:=by rw[q2];exact cS _ q3
        rcases tF (E:=E) p (.vec e t0 l0) (cur.toList.take (l0.length*t0.size)) n' v' q8 h3 with⟨rfl,rfl⟩ | ⟨hV',hle⟩
        · simp only[ay,cE]at h4
          obtain⟨rfl,he⟩:=h4;obtain⟨rfl,he⟩:=he;exact⟨pl,cur,e,rfl,q1,ak,by simpa using q8,λj hj=>by show j < l.length*t.size;omega⟩
        · have hle':=hle
          rw[hlen]at hle';rw[ue,eJ,dU ak]at hV';cases v' with
          |d t' x=>cases t' with
            |arr m t'=>
              simp only[ay,cE]at h4;obtain⟨rfl,he⟩:=h4;obtain⟨rfl,he⟩:=he;simp only[V,df]at hV';obtain⟨aPe,VE⟩:=hV';have tW:∀(t:Ty) (l:List t.den),l.length=m->(aB.d (.arr m t) l).size=l.length*t.size:=λt l hh=>by simp[aB.size,Ty.size,hh]
              rw[tW _ _ aPe]at VE hle';refine⟨pl,cur,e,rfl,q1,ak,VE,λj hj=> ?_⟩;show j < l0.length*t0.size;omega
            |_=>simp only[av]at h4
          |vec=>simp only[V]at hV'
          |_=>simp only[av]at h4
theorem Nq{E:Env}{t:Ty}{cs:List Value}{l:List t.den}(h:bD (df E t) cs l)(i len:Nat):bD (df E t) ((cs.drop (i*t.size)).take (len*t.size)) (cut l i len):=bD.take (λ_ _ hx=>hx.size) len (bD.drop (λ_ _ hx=>hx.size) i h)
theorem Fx{α:Type}{l:List α}{i len:Nat}(h:i+len<=l.length):(cut l i len).length=len:=by simp[cut];omega
theorem apK{E E':Env}{s:AS}(hs:E.s=s.bW)(ho:iZ E)(he:cM E E'){id:Id}{ver c i len n:Nat}{p:List La}{t':Ty}{l:List t'.den}{cs:List Value}
  (h1:(s.row id ver p).eval=some (n,⟨t',l⟩)) (h3:decide (n+i*t'.size=c/\i+len<=l.length)=true) (hv:V E (.bA id ver p c i len) cs) (hf:aQX E E' (aB.bA id ver p c i len).shared):df E' (.slice t') cs (cut l i len):=by
 simp only[aW]at h3;obtain⟨hc,hlen⟩:=h3;obtain⟨fr,c0,cQ,s9⟩:=Ue hs ho h1;simp only[V]at hv;obtain⟨a,cap,ani,hle,qX,hb,fB⟩:=hv;have fB:=fB ⟨fr,c0,cQ⟩;have aJC:(cut l i len).length=len:=Fx hlen;simp only[df];refine⟨a,cap,?_⟩;rcases s9 with⟨hp,hl,_⟩ | ⟨pl,cur,e,hp,hh,tW,wB,hbound⟩
 ·rw[hp]at fB;simp only at fB;obtain⟨rfl,rfl,rfl⟩:=fB;refine⟨[],?_,ak,ak,λ_ _ hh=>by simp at hh,?_⟩
  ·rw[aJC];exact ani
  ·have:cut l i 0=[]:=by simp[cut]
   rw[this];rfl
 ·rw[hp]at fB;simp only at fB;refine⟨((((cur.toList.drop n).take (l.length*t'.size)).drop (i*t'.size)).take (len*t'.size)),by rw[aJC];exact ani,ak,by rw[aJC];exact qX,?_,(Nq wB i len).mono λ_ _ hx=>hx.mono he.mem⟩;have hmul:(i+len)*t'.size<=l.length*t'.size:=cS _ hlen;rw[eE]at hmul;rw[abu _ _ _ _ _ hmul];intro j v hj;rw[di]at hj;split at hj
  ·rename_i aO4;rw[fV,hc]at hj;have aTU:0 < len:=by
    rcases iY len with h0 | h0
    ·subst h0;simp at aO4
    ·exact h0
   refine⟨pl.b,c,fB.1 (.inl aTU),?_⟩;refine hf id (by simp[aB.shared]) ver fr c0 cQ pl hp (c+j) v ?_ (hbound _ ak)
   rw[cell_of_row E.w pl.b (c+j) cur e (0,0) hh];simpa using hj
  ·cases hj
theorem xM{E E':Env}{s:AS}(hs:E.s=s.bW)(ho:iZ E)(he:cM E E'):∀(v:aB) (t:Ty) (x:t.den) (cs:List Value),V E v cs->(s.jq t v).eval=some x->aQX E E' v.shared->df E' t cs x
 | .d t' x',t,x,cs,hv,h,_=>by
  have h':(Out.opt (H8 t' t x')).eval=some x:=by cases t <;> simpa only[AS.jq]using h
  simp only[V]at hv;exact Fi (ku.1 h') (hv.mono he.mem)
 | .de,.slice t,x,cs,hv,h,_=>by simp only[AS.jq,ay]at h;subst h;simp only[V]at hv;simp only[df];exact⟨none,0,[],by simpa using hv,by simp,by simp,λi v hh=>by simp at hh,rfl⟩
 | .de,.ig t,x,cs,hv,h,_=>by simp only[AS.jq,ay]at h;subst h;simp only[V]at hv;simp only[df];exact⟨λ_=>hv,λl hl=>(by cases hl)⟩
 | .bA id ver p c i len,.ig t,x,cs,hv,h,hf=>by simp only[AS.jq]at h;obtain⟨⟨n,t',l⟩,h1,h2⟩:=aw.1 h;obtain⟨h3,h4⟩:=bS.1 h2;exact Fi (ku.1 h4) (apK hs ho he h1 h3 hv hf)
 | .bA id ver p c i len,.slice t,x,cs,hv,h,hf=>by simp only[AS.jq]at h;obtain⟨⟨n,t',l⟩,h1,h2⟩:=aw.1 h;obtain⟨h3,h4⟩:=bS.1 h2;exact Fi (ku.1 h4) (apK hs ho he h1 h3 hv hf)
 | .pr a b,.pair ta tb,x,cs,hv,h,hf=>by simp only[AS.jq]at h;obtain⟨x1,h1,h2⟩:=aw.1 h;obtain⟨x2,h3,h4⟩:=aw.1 h2;obtain rfl:=ay.1 h4;simp only[V]at hv;obtain⟨ca,cb,e,ha,hb⟩:=hv;simp only[df];exact⟨ca,cb,e,xM hs ho he a ta x1 ca ha h1 (λi hi=>hf i (by simp[aB.shared,hi])),xM hs ho he b tb x2 cb hb h3 (λi hi=>hf i (by simp[aB.shared,hi]))⟩
 | .de,.int _,_,_,_,h,_ | .de,.bool,_,_,_,h,_ | .de,.str,_,_,_,h,_ | .de,.unit,_,_,_,h,_ | .de,.pair _ _,_,_,_,h,_ | .de,.arr _ _,_,_,_,h,_ | .de,.uH _,_,_,_,h,_=>by simp only[AS.jq,av]at h
 | .bA ..,.int _,_,_,_,h,_ | .bA ..,.bool,_,_,_,h,_ | .bA ..,.str,_,_,_,h,_ | .bA ..,.unit,_,_,_,h,_ | .bA ..,.pair _ _,_,_,_,h,_ | .bA ..,.arr _ _,_,_,_,h,_ | .bA ..,.uH _,_,_,_,h,_=>by simp only[AS.jq,av]at h
 | .pr _ _,.int _,_,_,_,h,_ | .pr _ _,.bool,_,_,_,h,_ | .pr _ _,.str,_,_,_,h,_ | .pr _ _,.unit,_,_,_,h,_ | .pr _ _,.slice _,_,_,_,h,_ | .pr _ _,.arr _ _,_,_,_,h,_ | .pr _ _,.ig _,_,_,_,h,_ | .pr _ _,.uH _,_,_,_,h,_=>by simp only[AS.jq,av]at h
 | .undef,t,_,_,_,h,_=>by cases t <;> simp only[AS.jq,av]at h
 | .gone,t,_,_,_,h,_=>by cases t <;> simp only[AS.jq,av]at h
 | .ri,t,_,_,_,h,_=>by cases t <;> simp only[AS.jq,av]at h
 | .xA,t,_,_,_,h,_=>by cases t <;> simp only[AS.jq,av]at h
 | .yl ..,t,_,_,_,h,_ | .rP ..,t,_,_,_,h,_=>by cases t <;> simp only[AS.jq,av]at h
 | .De,t,_,_,_,h,_=>by cases t <;> simp only[AS.jq,av]at h
 | .sb _,t,_,_,_,h,_=>by cases t <;> simp only[AS.jq,av]at h
 | .ptr ..,t,_,_,_,h,_=>by cases t <;> simp only[AS.jq,av]at h
 | .dO ..,t,_,_,_,h,_=>by cases t <;> simp only[AS.jq,av]at h
 | .fn ..,t,_,_,_,h,_=>by cases t <;> simp only[AS.jq,av]at h
 | .cons ..,t,_,_,_,h,_=>by cases t <;> simp only[AS.jq,av]at h
 | .nil,t,_,_,_,h,_=>by cases t <;> simp only[AS.jq,av]at h
 | .vec ..,t,_,_,_,h,_=>by cases t <;> simp only[AS.jq,av]at h
 | .bx ..,t,_,_,_,h,_ | .cj ..,t,_,_,_,h,_ | .mp ..,t,_,_,_,h,_ | .tC ..,t,_,_,_,h,_=>by cases t <;> simp only[AS.jq,av]at h
theorem CP{s:AS}{t:Ty}{v:aB}{x:t.den}(h:(s.jq t v).eval=some x):v.eQ=true:=by
 cases v <;> first
  |rfl
  | (cases t <;> simp only[AS.jq,av]at h)
theorem ac6{s:AS}{t:Ty}{v:aB}{x:t.den}(h:(s.jq t v).eval=some x):v.agg=t.agg:=by
 cases v with
 |d t' x'=>
  have h':(Out.opt (H8 t' t x')).eval=some x:=by cases t <;> simpa only[AS.jq]using h
  exact afL (ku.1 h')
 |_=>cases t <;> first | rfl | (simp only[AS.jq,av]at h)
theorem BH{C:Ctx}{g:Nat->mz}{β:Id->Option Pl}{s:AS}{a:Act}{w:World}(h:Inv C g β s a w){v:aB}{y:Value}(hv:VS (s.env w g β) v y){t:Ty}{x:t.den}(ht:(s.jq t v).eval=some x):
  ∃g',Inv C g' β (s.bB v.shared) a w/\cM (s.env w g β) ((s.bB v.shared).env w g' β)/\Trans w w g g'/\
   ∃cs,df ((s.bB v.shared).env w g' β) t cs x/\fT t.agg cs y:=by
 obtain⟨g',h1,h2,h3,h4⟩:=fD v.shared h;obtain⟨cs,hV,hO⟩:=hv.eQ (CP ht);exact⟨g',h1,h2,h3,cs,xM rfl h.bJ h2 v t x cs hV ht h4,by rw[<-ac6 ht];exact hO⟩
theorem ZH{α:Type}{R:List Value->α->Prop}{f:α->List Value->Option (List Value)}(hf:∀x cs r,f x cs=some r->∃c,cs=c++r/\R c x):
  ∀(l:List α) (cs r:List Value),aEB f l cs=some r->∃c,cs=c++r/\bD R c l
 |[],cs,r,h=>by simp only[aEB,az]at h;exact⟨[],by simp[h],rfl⟩
 |x::xs,cs,r,h=>by
  simp only[aEB]at h;cases hx:f x cs with
  |none=>rw[hx]at h;cases h
  |some r1=>
   rw[hx]at h;obtain⟨c1,e1,h1⟩:=hf x cs r1 hx;obtain⟨c2,e2,h2⟩:=ZH hf xs r1 r h;exact⟨c1++c2,by rw[e1,e2,aF],c1,c2,rfl,h1,h2⟩
theorem FD(E:Env):∀(t:Ty) (x:t.den) (cs r:List Value),zh t x cs=some r->∃c,cs=c++r/\df E t c x
 | .int k,x,cs,r,h=>by
  cases cs with
  |nil=>simp[zh]at h
  |cons v r'=>
   cases v <;> simp only[zh]at h <;> try (cases h;done)
   rename_i k' n;split at h
   ·rename_i h1 h2;simp at h1 h2 h;subst h1 h2 h;exact⟨[.int k n],rfl,by simp[df]⟩
   ·cases h
 | .bool,x,cs,r,h=>by
  cases cs with
  |nil=>simp[zh]at h
  |cons v r'=>
   cases v <;> simp only[zh]at h <;> try (cases h;done)
   rename_i b;split at h
   ·rename_i h1;simp at h1 h;subst h1 h;exact⟨[.bool b],rfl,by simp[df]⟩
   ·cases h
 | .str,x,cs,r,h=>by
  cases cs with
  |nil=>simp[zh]at h
  |cons v r'=>
   cases v <;> simp only[zh]at h <;> try (cases h;done)
   rename_i b;split at h
   ·rename_i h1;simp at h1 h;subst h1 h;exact⟨[.string b],rfl,by simp[df]⟩
   ·cases h
 | .slice t,x,cs,r,h=>by
  cases x with
  |cons _ _=>simp[zh]at h
  |nil=>
   cases cs with
   |nil=>simp[zh]at h
   |cons v r'=>
    unfold zh at h;split at h <;> try (cases h;done)
    all_goals simp_all
    exact⟨[.slice none 0 0],rfl,by simp only[df];exact⟨none,0,[],rfl,by simp,by simp,λi v hh=>by simp at hh,rfl⟩⟩
 | .ig t,x,cs,r,h=>by
  cases x with
  |some _=>simp[zh]at h
  |none=>
   cases cs with
   |nil=>simp[zh]at h
   |cons v r'=>
    unfold zh at h;split at h <;> try (cases h;done)
    all_goals simp_all
    exact⟨[.slice none 0 0],rfl,by simp[df]⟩
 | .uH t,x,cs,r,h=>by
  cases x with
  |some _=>simp[zh]at h
  |none=>
   cases cs with
   |nil=>simp[zh]at h
   |cons v r'=>
    unfold zh at h;split at h <;> try (cases h;done)
    all_goals simp_all
    exact⟨[.pointer none],rfl,by simp[df]⟩
 | .unit,x,cs,r,h=>by simp only[zh,az]at h;exact⟨[],by simp[h],by simp[df]⟩
 | .pair a b,x,cs,r,h=>by
  simp only[zh]at h;cases hx:zh a x.1 cs with
  |none=>rw[hx]at h;cases h
  |some r1=>
   rw[hx]at h;obtain⟨c1,e1,h1⟩:=FD E a x.1 cs r1 hx;obtain⟨c2,e2,h2⟩:=FD E b x.2 r1 r h;exact⟨c1++c2,by rw[e1,e2,aF],by simp only[df];exact⟨c1,c2,rfl,h1,h2⟩⟩
 | .arr n t,x,cs,r,h=>by
  simp only[zh]at h;split at h
  ·rename_i h1;obtain⟨c,e,hc⟩:=ZH (λx cs r hh=>FD E t x cs r hh) _ _ _ h;exact⟨c,e,by simp only[df];exact⟨by simpa using h1,hc⟩⟩
  ·cases h
theorem arL(E:Env):∀(a:aB) (cs r:List Value),W9 a cs=some r->∃c,cs=c++r/\V E a c:=by
 intro a
 induction a with
 |d t x=>
  intro cs r h;simp only[W9]at h;obtain⟨c,e,hc⟩:=FD E t x cs r h;exact⟨c,e,by simpa only[V]using hc⟩
 |pr a b iha ihb=>
  intro cs r h;simp only[W9]at h;cases hx:W9 a cs with
  |none=>rw[hx]at h;cases h
  |some r1=>
   rw[hx]at h;obtain⟨c1,e1,h1⟩:=iha cs r1 hx;obtain⟨c2,e2,h2⟩:=ihb r1 r h;exact⟨c1++c2,by rw[e1,e2,aF],by simp only[V];exact⟨c1,c2,rfl,h1,h2⟩⟩
 |de=>intro cs r h;unfold W9 at h;split at h <;> simp_all <;> exact⟨[.slice none 0 0],rfl,by simp[V]⟩
 |ri=>intro cs r h;unfold W9 at h;split at h <;> simp_all <;> exact⟨[.pointer none],rfl,by simp[V]⟩
 |xA=>intro cs r h;unfold W9 at h;split at h <;> simp_all <;> exact⟨[.nilFunc],rfl,by simp[V]⟩
 |De=>intro cs r h;unfold W9 at h;split at h <;> simp_all <;> exact⟨[.map none],rfl,by simp[V]⟩
 |_=>intro cs r h;simp[W9]at h
theorem wh{P:Program}{T:TypeId}{z:aB}(h:ala P T z=true)(E:Env):
  ∃i zv,P.info? T=some i/\i.zero=some zv/\V E z zv.cells.toList/\fT z.agg zv.cells.toList zv:=by
 unfold ala at h;split at h <;> try (cases h;done)
 rename_i i hi;split at h <;> try (cases h;done)
 rename_i zv hz;simp only[au,dv]at h;obtain⟨h1,h2⟩:=h;split at h1 <;> try (cases h1;done)
 rename_i he;obtain⟨c,e,hV⟩:=arL E z _ _ he;rw[aZ]at e;rw[<-e]at hV;refine⟨i,zv,hi,hz,hV,?_⟩;cases anf:z.agg with
 |true=>
  rw[anf]at h2;cases zv <;> simp[te]at h2;simp[fT,Value.cells]
 |false=>
  rw[anf]at h2;cases zv <;> first | (simp[te]at h2;done) | simp[fT,Value.cells]
end Go.Ab
namespace Go.Ab
def Fr(r:Option Nat):Fence:= {Fence.wide with round:=r}
def fL(P:Program)(o:Oper)(a:Act)(w:World)(K:Act->World->Prop):Prop:=(∃x w',(execOp a.eval o).run P w= .ok (.value x) w'/\K (a.put o.dst x) w')\/(∃w',(execOp a.eval o).run P w= .ok .skip w'/\K (a.put o.dst undef) w')\/(∃f args w',(execOp a.eval o).run P w= .ok (.enter f args) w'/\Calls P f args w' λe w''=>∃x,e= .returned x/\K (a.put o.dst x) w'')\/(∃l f tmps as b w',(execOp a.eval o).run P w= .ok (.round l f tmps as b) w'/\∀r n,RoundIn (Fr r) n P l f tmps as b w' λe w''=>∃x,e= .returned x/\K (a.put o.dst x) w'')
theorem fL.plain{P:Program}{o:Oper}{a:Act}{w:World}{K:Act->World->Prop}(h:fL P o a w K)(c:Call):o.op≠ .defer c:=λho=>by
 have hd:∀x w',(execOp a.eval o).run P w= .ok x w'->∃d,x= .defer d:=λx w' hx=>by
  simp only[execOp,ho,Sem.run_bind]at hx;cases hr:(resolve a.eval c o.type).run P w with
  |ok d w1=>
   rw[hr]at hx;simp only[Result.andThen_ok,Sem.run_pure,Result.ok.injEq]at hx;exact⟨d,hx.1.symm⟩
  |halt _ _=>rw[hr]at hx;simp[Result.andThen]at hx
 rcases h with⟨x,w',hr,_⟩ | ⟨w',hr,_⟩ | ⟨f,args,w',hr,_⟩ | ⟨l,f,tmps,as,b,w',hr,_⟩
 ·obtain⟨d,e⟩:=hd _ _ hr;cases e
 ·obtain⟨d,e⟩:=hd _ _ hr;cases e
 ·obtain⟨d,e⟩:=hd _ _ hr;cases e
 ·obtain⟨d,e⟩:=hd _ _ hr;cases e
theorem fL.wpIn{r:Option Nat}{n:Nat}{P:Program}{o:Oper}{a:Act}{w:World}{K:Act->World->Prop}{Q:Exit->Act->World->Prop}(h:fL P o a w K):o.wpIn (Fr r) n P a w K Q:=by
 have hp:=h.plain;refine⟨λ_ _=>trivial,?_⟩;rw[Oper.semAt_eq _ _ _ hp];rcases h with⟨x,w',hr,hk⟩ | ⟨w',hr,hk⟩ | ⟨f,args,w',hr,hk⟩ | ⟨l,f,tmps,as,b,w',hr,hk⟩;rotate_left 3
 ·rw[hr,Oper.uponIn_round];refine⟨λh=>(by cases h),(hk r (n - 1)).mono λe w'' ⟨x,he,hx⟩=> ?_⟩;subst he;exact hx
 ·rw[hr,Oper.uponIn_value];exact hk
 ·rw[hr,Oper.uponIn_skip];exact hk
 ·rw[hr,Oper.uponIn_enter];refine⟨λh=>(by cases h),?_⟩;have h1:CallsIn (Fr r) (n - 1) P f args w' _:=callsIn_wide.2 hk;refine h1.mono λe w'' ⟨x,he,hx⟩=> ?_
  subst he;exact hx
theorem fL.mono{P:Program}{o:Oper}{a:Act}{w:World}{K K':Act->World->Prop}(h:fL P o a w K)(hk:∀a w,K a w->K' a w):fL P o a w K':=by
 rcases h with⟨x,w',hr,h⟩ | ⟨w',hr,h⟩ | ⟨f,args,w',hr,h⟩ | ⟨l,f,tmps,as,b,w',hr,h⟩
 ·exact .inl ⟨x,w',hr,hk _ _ h⟩
 ·exact .inr (.inl ⟨w',hr,hk _ _ h⟩)
 ·exact .inr (.inr (.inl ⟨f,args,w',hr,h.mono λe w'' ⟨x,he,hx⟩=>⟨x,he,hk _ _ hx⟩⟩))
 ·exact .inr (.inr (.inr ⟨l,f,tmps,as,b,w',hr,λr n=>(h r n).mono λe w'' ⟨x,he,hx⟩=>⟨x,he,hk _ _ hx⟩⟩))
section
variable {P:Program} {C:Ctx} {g:Nat->mz} {β:Id->Option Pl} {s:AS} {a:Act} {w:World} {o:Oper}
theorem Inv.value(h:Inv C g β s a w){v:aB}{x:Value}(hv:VS (s.env w g β) v x)(hr:(execOp a.eval o).run P w= .ok (.value x) w):fL P o a w (iB C (s.put o.dst v)):= .inl ⟨x,w,hr,g,β,h.put o.dst hv⟩
theorem dW{f:Sem Value}{x:Value}{w':World}(he:execOp a.eval o=(do pure (.value (<-f))))(hf:f.run P w= .ok x w'):(execOp a.eval o).run P w= .ok (.value x) w':=by rw[he,Sem.run_bind,hf];rfl
theorem afX{f:Sem Unit}{w':World}(he:execOp a.eval o=(do f;pure .skip))(hf:f.run P w= .ok () w'):(execOp a.eval o).run P w= .ok .skip w':=by rw[he,Sem.run_bind,hf];rfl
theorem vH{E:Env}{k:IntKind}{n:Int}{y:Value}(h:VS E (.d (.int k) n) y):y= .int k n:=by obtain⟨cs,hv,ho⟩:=h;simp only[V,df]at hv;have ho':cs=[y]:=ho;rw[hv]at ho';simpa using ho'.symm
theorem XN{E:Env}{b:Bool}{y:Value}(h:VS E (.d .bool b) y):y= .bool b:=by obtain⟨cs,hv,ho⟩:=h;simp only[V,df]at hv;have ho':cs=[y]:=ho;rw[hv]at ho';simpa using ho'.symm
theorem JL{E:Env}{b:ByteArray}{y:Value}(h:VS E (.d .str b) y):y= .string b:=by obtain⟨cs,hv,ho⟩:=h;simp only[V,df]at hv;have ho':cs=[y]:=ho;rw[hv]at ho';simpa using ho'.symm
theorem l5{E:Env}(k:IntKind)(n:Int):VS E (.d (.int k) n) (.int k n):=⟨[.int k n],by simp[V,df],rfl⟩
theorem wk{E:Env}(b:Bool):VS E (.d .bool b) (.bool b):=⟨[.bool b],by simp[V,df],rfl⟩
theorem ahD{E:Env}(b:ByteArray):VS E (.d .str b) (.string b):=⟨[.string b],by simp[V,df],rfl⟩
theorem avU{T:TypeId}{d:TypeDesc}(h:P.underlying T=some d):∃i,P.info? T=some i:=by
 unfold Program.underlying at h;split at h
 ·rename_i h';exact⟨_,h'⟩
 ·rename_i i _ h';exact⟨_,h'⟩
 ·cases h
theorem run_sizeOf{T:TypeId}{i:TypeInfo}(h:P.info? T=some i)(w:World):(sizeOf T).run P w= .ok i.size w:=by simp[sizeOf,typeInfo,h]
theorem nD{T:TypeId}{i:TypeInfo}(h:P.info? T=some i):P.cellsOf T=i.size:=by simp[Program.cellsOf,h]
theorem s8{T:TypeId}{v:aB}(h:fits P T v=true):v.eQ=true/\∃i,P.info? T=some i/\i.size=v.size/\∀w,(isAgg T).run P w= .ok v.agg w:=by
 unfold fits at h;simp only[au,dv]at h;obtain⟨⟨h1,h2⟩,h3⟩:=h;cases hu:P.underlying T with
 |none=>rw[hu]at h3;cases h3
 |some d=>
  obtain⟨i,hi⟩:=avU hu;refine⟨h1,i,hi,by rw[nD hi]at h2;exact h2,λw=> ?_⟩;rw[hu]at h3;unfold isAgg;rw[Sem.run_bind,run_underlying hu w];cases d <;> simp at h3 <;> simp[h3]
theorem Bz{T:TypeId}{v:aB}(hf:fits P T v=true){b off:Nat}{cs:List Value}(hl:cs.length=v.size)(hc:∀j x,cs[j]? =some x->w.cell? ⟨b,off+j,none⟩=some x):
  ∃y,(loadVar T ⟨b,off,none⟩).run P w= .ok y w/\fT v.agg cs y:=by
 obtain⟨_,i,hi,hs,anf⟩:=s8 hf;unfold loadVar;rw[Sem.run_bind,anf w];simp only[Result.andThen_ok];have Ed:∀j x,cs[j]? =some x->w.cell? ((⟨b,off,none⟩:Addr).add j)=some x:=λj x hj=>by rw[Addr.add_lit];exact hc j x hj
 cases ha:v.agg with
 |true=>
  refine⟨.agg cs.toArray,?_,rfl⟩;simp only[bG,Sem.run_bind,run_sizeOf hi,Result.andThen_ok,hs,<-hl,run_loadCells_list w _ cs Ed];rfl
 |false=>
  have h1:v.size=1:=aB.apA ha;obtain⟨y,rfl⟩:∃y,cs=[y]:=by
   match cs,hl with
   |[y],_=>exact⟨y,rfl⟩
   |[],hh=>simp[h1]at hh
   |_::_::_,hh=>simp[h1]at hh
  refine⟨y,?_,rfl⟩;have:=hc 0 y rfl;rw[cq]at this;simp[this]
theorem Hn{T:TypeId}{v:aB}{E:Env}(hf:fits P T v=true){cs:List Value}{y:Value}(hV:V E v cs)(ho:fT v.agg cs y){b off:Nat}{cur:Array Value}{e:TypeId}
  (hh:w.heap[b]? =some (.cells cur e (0,0))) (hle:off+cs.length<=cur.size):
  (storeVar T ⟨b,off,none⟩ y).run P w= .ok () (w.setRow b (dA cur.toList off cs).toArray):=by
 obtain⟨_,i,hi,hs,_⟩:=s8 hf;have ani:y.cells=cs.toArray:=ho.cells hV.one;have hl:=hV.size;have mG:=run_storeCells_at P b off e cs 0 cur w hh (by simpa using hle) hV.one;simp only[cq]at mG;unfold storeVar;simp only[ani,Sem.run_bind,run_sizeOf hi,Result.andThen_ok,iu,hl,hs,ne_eq,not_true_eq_false,bt];simpa[dA]using mG
theorem rA(w:World)(ob:Obj){b:Nat}(h:b < w.heap.size):(w.alloc ob).heap[b]? =w.heap[b]? :=by
 show(w.heap.push ob)[b]? =w.heap[b]?
 rw[Array.getElem?_push,if_neg (Nat.ne_of_lt h)]
theorem ui(w:World)(ob:Obj):(w.alloc ob).heap[w.heap.size]? =some ob:=by
 show(w.heap.push ob)[w.heap.size]? =some ob
 simp
theorem Trans.alloc(w:World)(g:Nat->mz)(ob:Obj)(l:mz):Trans w (w.alloc ob) g (nT g w.heap.size l):=by
 refine⟨rfl,rfl,⟨rfl,ax _⟩,by simp,λb hb=> ?_⟩;rw[fA _ _ _ ak,rA w ob hb];cases g b with
 |free=>exact⟨rfl,rfl⟩
 |own o k=>cases o with
  |eo=>exact⟨rfl,rfl⟩
  |id i=>exact⟨.inr ⟨i,k,rfl,ax _⟩,λoff v _ hv=>by rw[World.cell?_alloc_lt w ob _ hb];exact hv⟩
theorem Trans.drew(w:World)(g:Nat->mz):Trans w w.drew g g:=Trans.refl w g |> λh=>⟨h.os,h.tape,⟨h.output.1,oS _⟩,h.size,h.SX⟩
theorem iZ.same{w':World}{g':Nat->mz}(h:iZ (s.env w g β))(he:cM (s.env w g β) (s.env w' g' β))(hb:∀i ver fr c pl,s.bW i=some (.obj ver fr c)->β i=some pl->w'.heap[pl.b]? =w.heap[pl.b]? /\g' pl.b=g pl.b):iZ (s.env w' g' β):=λi ver fr c hi=>(h i ver fr c hi).mono he rfl (λpl hp=>hb i ver fr c pl hi hp) λq vq k v l hq _=>⟨⟨k,v,l,hq⟩,λpl hp=>hb q vq true _ pl hq hp⟩
theorem cM.same{w':World}{g':Nat->mz}(ht:Trans w w' g g'):cM (s.env w g β) (s.env w' g' β):=⟨Trans.mem ht,λ_ _ h=>h,λ_ _ _ h=>⟨h,rfl⟩⟩
theorem Inv.Kj(h:Inv C g β s a w)(ob:Obj):Inv C (nT g w.heap.size .free) β s a (w.alloc ob):=by have ht:=Trans.alloc w g ob .free;have he:cM (s.env w g β) (s.env (w.alloc ob) (nT g w.heap.size .free) β):=cM.same ht;refine h.step rfl ht he (iZ.same h.bJ he λi ver fr c pl hi hp=> ?_);have hl:=((h.bJ i ver fr c hi).label (pl:=pl) hp).1;have hl':pl.b < w.heap.size:=hl;exact⟨rA w ob hl',fA _ _ _ ak⟩
theorem Inv.drew(h:Inv C g β s a w):Inv C g β s a w.drew:=by have ht:=Trans.drew w g;have he:cM (s.env w g β) (s.env w.drew g β):=cM.same ht;exact h.step rfl ht he (iZ.same h.bJ he λ_ _ _ _ _ _ _=>⟨rfl,rfl⟩)
theorem kJ{q:Nat}(h:s.dY q=true):(∀j,s.bW (.new q j)=none)/\q < s.news.length:=by
 unfold AS.dY at h;split at h
 ·rename_i hn;refine⟨λj=> ?_,(dF.1 hn).1⟩;simp[AS.bW,aH,hn]
 ·cases h
theorem zj{q:Nat}(hq:q < s.news.length)(es:List dE)(j:Nat):(s.born q es).bW (.new q j)=es[j]? :=by simp[AS.bW,AS.born,aH,hq]
theorem jm{q:Nat}(es:List dE){id:Id}(h:∀j,id≠ .new q j):(s.born q es).bW id=s.bW id:=by
 cases id with
 |bm k=>rfl
 |new i j=>
  have:i≠q:=λe=>h j (by rw[e])
  simp only[AS.bW,AS.born,aH];rw[ea (Ne.symm this)]
def Kb(β:Id->Option Pl)(id:Id)(p:Option Pl):Id->Option Pl:=λi=>if i=id then p else β i
@[simp] theorem kh(β:Id->Option Pl)(id:Id)(p:Option Pl):Kb β id p id=p:=by simp[Kb]
theorem BL(β:Id->Option Pl)(id:Id)(p:Option Pl){i:Id}(h:i≠id):Kb β id p i=β i:=by simp[Kb,h]
theorem Inv.SY(h:Inv C g β s a w){q:Nat}(hq:s.dY q=true){w':World}{g':Nat->mz}{c:aB}{p:Option Pl}(ht:Trans w w' g g')
  (hb:∀b,b < w.heap.size->w'.heap[b]? =w.heap[b]? /\g' b=g b)
  (ho:cM (s.env w g β) ((s.born q [.obj 0 false c]).env w' g' (Kb β (.new q 0) p))->xk ((s.born q [.obj 0 false c]).env w' g' (Kb β (.new q 0) p)) (.new q 0) false c):
  Inv C g' (Kb β (.new q 0) p) (s.born q [.obj 0 false c]) a w'/\cM (s.env w g β) ((s.born q [.obj 0 false c]).env w' g' (Kb β (.new q 0) p)):=by
 obtain⟨hv,hl⟩:=kJ hq;have gF:∀id,s.bW id≠none->∀j,id≠ .new q j:=λid cY j e=>cY (by rw[e];exact hv j)
 have he:cM (s.env w g β) ((s.born q [.obj 0 false c]).env w' g' (Kb β (.new q 0) p)):=by
  refine⟨Trans.mem ht,λid ver anh=> ?_,λid ver anh hc=> ?_⟩
  ·have cY:=gF id anh.1;have e:=jm (s:=s) [.obj 0 false c] cY;exact⟨by show(s.born q _).bW id≠none;rw[e];exact anh.1,λv fr c' hh=>anh.2 v fr c' (e.symm.trans hh)⟩
  ·have cY:=gF id anh.1;have e:=jm (s:=s) [.obj 0 false c] cY;obtain⟨fr,c',hc⟩:=hc;exact⟨⟨fr,c',e.symm.trans hc⟩,BL _ _ _ (cY 0)⟩
 refine⟨h.step rfl ht he λid ver fr c' cY=> ?_,he⟩;have hid':(s.born q [.obj 0 false c]).bW id=some (.obj ver fr c'):=cY;by_cases hi:∃j,id= .new q j
 ·obtain⟨j,rfl⟩:=hi;rw[zj hl]at hid';cases j with
  |zero=>
   simp only[fQ,az,dE.obj.injEq]at hid';obtain⟨rfl,rfl,rfl⟩:=hid';exact ho he
  |succ j=>simp at hid'
 ·have hi':∀j,id≠ .new q j:=λj e=>hi ⟨j,e⟩
  rw[jm _ hi']at hid';refine(h.bJ id ver fr c' hid').mono he (BL _ _ _ (hi' 0)) (λpl hp=> ?_) λq2 vq k v l Tq _=> ?_
  ·exact hb pl.b ((h.bJ id ver fr c' hid').label (pl:=pl) hp).1
  ·have aT8:s.bW q2=some (.obj vq true (.mp k v l)):=Tq;refine⟨⟨k,v,l,by show(s.born q _).bW q2=_;rw[jm _ (gF q2 (by rw[aT8];simp))];exact aT8⟩,λpl hp=>hb pl.b ((h.bJ q2 vq true _ aT8).label (pl:=pl) hp).1⟩
theorem qs{q:Nat}(hq:s.dY q=true)(c:aB)(w':World)(g':Nat->mz)(β':Id->Option Pl):((s.born q [.obj 0 false c]).env w' g' β').G1 (.new q 0) 0:=by have e:=zj (s:=s) (kJ hq).2 [.obj 0 false c] 0;refine⟨by show(s.born q [.obj 0 false c]).bW (.new q 0)≠none;rw[e];simp,λv fr c' _=>aK _⟩
theorem Inv.awd(h:Inv C g β s a w){q:Nat}(hq:s.dY q=true){v:aB}{cs:List Value}{e:TypeId}(hk:∀pl n,v.HZ pl n e)(hN:∀n,v.xW n=n)(hv:V (s.env w g β) v.strip cs):
  ∃g' β',Inv C g' β' (s.born q [.obj 0 false v]) a (w.alloc (.cells cs.toArray e))/\
   VS ((s.born q [.obj 0 false v]).env (w.alloc (.cells cs.toArray e)) g' β') (.ptr (.new q 0) 0 [] 0) (.pointer (some ⟨w.heap.size,0,none⟩)):=by
 have ht:=Trans.alloc w g (.cells cs.toArray e) (.own (.id (.new q 0)) 0);obtain⟨h1,h2⟩:=h.SY hq (c:=v) (p:=some ⟨w.heap.size,0⟩) ht (λb hb=>⟨rA w _ hb,fA _ _ _ ak⟩) (λhe=>
  SF.obj ⟨⟨w.heap.size,0⟩,cs.toArray,e,kh _ _ _,ui w _,fH _ _ _,hk _ _,by rw[hN,show cs.toArray.toList.take cs.toArray.size=cs by simp];exact hv.mono he⟩)
 refine⟨_,_,h1,?_⟩;refine⟨[.pointer (some ⟨w.heap.size,0,none⟩)],?_,rfl⟩;simp only[V];exact⟨_,rfl,qs hq _ _ _ _,λ_=>⟨_,kh _ _ _,rfl⟩⟩
theorem Inv.aPB(h:Inv C g β s a w){q:Nat}(hq:s.dY q=true){v:aB}{cs:List Value}(hv:V (s.env w g β) v cs)(e:TypeId):
  ∃g' β',Inv C g' β' (s.born q [.obj 0 false v]) a (w.alloc (.cells cs.toArray e))/\
   VS ((s.born q [.obj 0 false v]).env (w.alloc (.cells cs.toArray e)) g' β') (.ptr (.new q 0) 0 [] 0) (.pointer (some ⟨w.heap.size,0,none⟩)):=
 h.awd hq (λpl n=>S3 hv.Bh pl n e) (λn=>YY hv.Bh n) (by rw[Uy hv.Bh];exact hv)
theorem aDb(P:Program)(T:TypeId){z:aB}{E:Env}{cs:List Value}(hv:V E z cs):(∀pl n,(boxed P T z).HZ pl n T)/\(∀n,(boxed P T z).xW n=n)/\V E (boxed P T z).strip cs:=by
 unfold boxed;split
 ·exact⟨λ_ _=>rfl,λ_=>rfl,hv⟩
 ·exact⟨λpl n=>S3 hv.Bh pl n T,λn=>YY hv.Bh n,by rw[Uy hv.Bh];exact hv⟩
theorem Inv.aL0(h:Inv C g β s a w){t:Ty}{x:t.den}{cs:List Value}(hv:df (s.env w g β) t cs x)(e:TypeId):
  ∃g',Inv C g' β s a (w.alloc (.cells cs.toArray e))/\cM (s.env w g β) (s.env (w.alloc (.cells cs.toArray e)) g' β)/\
   VS (s.env (w.alloc (.cells cs.toArray e)) g' β) (.dO t x) (.pointer (some ⟨w.heap.size,0,none⟩)):=by
 have ht:=Trans.alloc w g (.cells cs.toArray e) .free;have he:cM (s.env w g β) (s.env (w.alloc (.cells cs.toArray e)) (nT g w.heap.size .free) β):=cM.same ht;refine⟨_,h.Kj _,he,[.pointer (some ⟨w.heap.size,0,none⟩)],?_,rfl⟩;simp only[V];refine⟨w.heap.size,0,cs,rfl,λi v hi=>⟨_,_,rfl,?_,?_⟩,hv.mono he.mem⟩
 ·show(w.alloc (.cells cs.toArray e)).cell? ⟨w.heap.size,0+i,none⟩=some v;rw[World.cell?_alloc_new,aO];simpa using hi
 ·show vk (nT g w.heap.size .free) w.heap.size (0+i);unfold vk;rw[fH];trivial
theorem acu(T:TypeId)(y:Value)(w:World):(newVar T y).run P w= .ok ⟨w.heap.size,0,none⟩ (w.alloc (.cells y.cells T)):=by simp[newVar,newRow]
theorem aqH(h:Inv C g β s a w){T:TypeId}(ho:o.op= .alloc T){z:aB}{q:Nat}(hq:s.dY q=true)(hz:ala P T z=true):
  fL P o a w (iB C ((s.born q [.obj 0 false (boxed P T z)]).put o.dst (.ptr (.new q 0) 0 [] 0))):=by
 obtain⟨i,zv,hi,aqu,hV,hO⟩:=wh hz (s.env w g β);obtain⟨hk,hN,hV⟩:=aDb P T hV;obtain⟨g',β',h1,h2⟩:=h.awd hq hk hN hV;refine .inl ⟨.pointer (some ⟨w.heap.size,0,none⟩),w.alloc (.cells zv.cells T),?_,g',β',?_⟩
 ·refine dW (f:=Instr.alloc T true (.tuple #[])) (by simp only[execOp,ho]) ?_
  simp[Instr.alloc,zeroValue,typeInfo,hi,aqu,acu]
 ·have:=h1.put o.dst h2;simpa using this
theorem VS.aR6{E:Env}{t:Ty}{x:t.den}{y:Value}(h:VS E (.dO t x) y)(dt:Bool):VS E (aOl dt t x) y:=by
 cases dt with
 |false=>exact h
 |true=>
  obtain⟨cs,hv,ho⟩:=h;simp only[V]at hv;refine⟨cs,?_,ho⟩;simp only[aOl,V,df];simpa using hv
theorem af8{E:Env}{t:Ty}{y:Value}(h:VS E (.d (.uH t) none) y):y= .pointer none:=by obtain⟨cs,hv,ho⟩:=h;simp only[V,df]at hv;have ho':cs=[y]:=ho;have e:=hv.1 trivial;rw[e]at ho';simpa using ho'.symm
theorem Qt{E:Env}{t:Ty}{x:t.den}{y:Value}(h:VS E (.d (.uH t) (some x)) y):VS E (.dO t x) y:=by obtain⟨cs,hv,ho⟩:=h;simp only[V,df]at hv;refine⟨cs,?_,ho⟩;simp only[V];simpa using hv
theorem aDa(h:Inv C g β s a w){T:TypeId}{x:Operand}{obj dt:Bool}(ho:o.op= .box T x){s':AS}(he:(alV P s obj dt o.dst T (s.ev x)).eval=some s'):fL P o a w (iB C s'):=by
 unfold alV at he;cases hd:o.dst with
 |none=>rw[hd]at he;simp only[av]at he
 |some q=>
  rw[hd]at he;have anj:=h.ev x;have gG:∀cs:List Value,(a.eval x).cells=cs.toArray->(execOp a.eval o).run P w= .ok (.value (.pointer (some ⟨w.heap.size,0,none⟩))) (w.alloc (.cells cs.toArray T)):=by
   intro cs ani;refine dW (f:=Instr.box T (a.eval x)) (by simp only[execOp,ho]) ?_
   simp[Instr.box,acu,ani]
  cases obj with
  |true=>
   obtain⟨hg,jn⟩:=aC.1 he;obtain rfl:=ay.1 jn;simp only[au]at hg;obtain⟨hq,hf⟩:=hg;obtain⟨hc,_⟩:=s8 hf;obtain⟨cs,hV,hO⟩:=anj.eQ hc;obtain⟨g',β',h1,h2⟩:=h.aPB hq hV T;refine .inl ⟨_,_,gG cs (hO.cells hV.one),g',β',?_⟩;rw[hd];exact h1.put (some q) h2
  |false=>
   simp only at he;cases ht:ap9 P depth T with
   |none=>rw[ht]at he;simp only[av]at he
   |some t=>
    rw[ht]at he;obtain⟨_,he⟩:=aC.1 he;obtain⟨y,h1,h2⟩:=aw.1 he;obtain rfl:=ay.1 h2;obtain⟨g1,i1,e1,t1,cs,hR,hO⟩:=BH h anj h1;obtain⟨g2,i2,e2,hv⟩:=i1.aL0 hR T;refine .inl ⟨_,_,gG cs (hO.cells hR.one),g2,β,?_⟩;rw[hd];exact i2.put (some q) (hv.aR6 dt)
theorem wX{E:Env}{t:Ty}{x:t.den}{y:Value}(h:VS E (.dO t x) y):∃b off vs,y= .pointer (some ⟨b,off,none⟩)/\GW E (some ⟨b,off,none⟩) vs/\df E t vs x:=by obtain⟨cs,hv,ho⟩:=h;simp only[V]at hv;obtain⟨b,off,vs,e,hr,hx⟩:=hv;have ho':cs=[y]:=ho;rw[e]at ho';exact⟨b,off,vs,by simpa using ho'.symm,hr,hx⟩
theorem vU{E:Env}{id:Id}{ver n:Nat}{p:List La}{y:Value}(h:VS E (.ptr id ver p n) y):
  ∃a,y= .pointer (some a)/\E.G1 id ver/\(E.cur id ver->∃pl,E.β id=some pl/\a=⟨pl.b,n,none⟩):=by
 obtain⟨cs,hv,ho⟩:=h;simp only[V]at hv;obtain⟨a,e,hb,hc⟩:=hv;have ho':cs=[y]:=ho;rw[e]at ho';exact⟨a,by simpa using ho'.symm,hb,hc⟩
theorem sM{E:Env}{id:Id}{ver c i len:Nat}{p:List La}{y:Value}(h:VS E (.bA id ver p c i len) y):
  ∃a cap,y= .slice a len cap/\len<=cap/\(0 < len->a.isSome=true)/\E.G1 id ver/\
   (E.cur id ver->match E.β id with
    |some pl=>(0 < len\/i=0->a=some ⟨pl.b,c,none⟩)/\(p=[]->i=0->cap=pl.cap)
    |none=>a=none/\len=0/\cap=0):=by
 obtain⟨cs,hv,ho⟩:=h;simp only[V]at hv;obtain⟨a,cap,e,rest⟩:=hv;have ho':cs=[y]:=ho;rw[e]at ho';exact⟨a,cap,by simpa using ho'.symm,rest⟩
theorem u6{E:Env}{t:Ty}{l:List t.den}{y:Value}(h:VS E (.d (.slice t) l) y):
  ∃a cap vs,y= .slice a l.length cap/\l.length<=cap/\(0 < l.length->a.isSome=true)/\GW E a vs/\bD (df E t) vs l:=by
 obtain⟨cs,hv,ho⟩:=h;simp only[V,df]at hv;obtain⟨a,cap,vs,e,rest⟩:=hv;have ho':cs=[y]:=ho;rw[e]at ho';exact⟨a,cap,vs,by simpa using ho'.symm,rest⟩
theorem lN{E:Env}{y:Value}(h:VS E .de y):y= .slice none 0 0:=by obtain⟨cs,hv,ho⟩:=h;simp only[V]at hv;have ho':cs=[y]:=ho;rw[hv]at ho';simpa using ho'.symm
theorem azM{E:Env}{id:Id}{fr:Bool}{c:aB}(h:xk E id fr c){p:List La}{n:Nat}{v:aB}(hl:(loc c.strip p).eval=some (n,v))(hf:v.eQ=true):
  ∃pl cur e,E.β id=some pl/\E.w.heap[pl.b]? =some (.cells cur e (0,0))/\V E v ((cur.toList.drop n).take v.size)/\n+v.size<=cur.size:=by
 by_cases hn:c.iS=false
 ·obtain⟨pl,cur,e,hp,hh,hg,hk,hV⟩:=h.box hn;have hN:=XO hk;generalize c.xW cur.size=N at hN hV;have hNl:(cur.toList.take N).length=N:=by rw[bp,cK];omega
  obtain⟨u,hu⟩:∃u,c.strip=u:=⟨_,rfl⟩;rw[hu]at hV hl;rcases tF p u (cur.toList.take N) n v (VO.of hV) hl with⟨rfl,rfl⟩ | ⟨h1,h2⟩
  ·have hs:=hV.size;rw[hNl]at hs;refine⟨pl,cur,e,hp,hh,?_,ak⟩;rw[aD,<-hs];exact hV
  ·rw[hNl]at h2;rw[ue,eJ,dU ak]at h1;exact⟨pl,cur,e,hp,hh,h1,ak⟩
 ·cases c <;> first | (exact absurd rfl hn) | skip
  rotate_left
  ·have hl:(loc (.mp _ _ _) p).eval=_:=hl;obtain⟨_,rfl⟩:=ajl hl;simp[aB.eQ]at hf
  ·have hl:(loc (.tC _ _ _ _ _ _) p).eval=_:=hl;obtain⟨_,rfl⟩:=X6 hl;simp[aB.eQ]at hf
  ·have hl:(loc (.rP _ _ _) p).eval=_:=hl;obtain⟨_,rfl⟩:=X7 hl;simp[aB.eQ]at hf
  rename_i e t l;obtain⟨hz,h⟩:=h;cases hp:E.β id with
  |none=>
   rw[hp]at h;have:l=[]:=h;subst this;obtain⟨_,rfl⟩:=aau hl;simp[aB.eQ]at hf
  |some pl=>
   rw[hp]at h;obtain⟨cur,k,q1,q2,q3,q4,q5,q6,q7,q8⟩:=h;have hlen:=bD.length (λc x hx=>df.size hx) q8;have tW:l.length*t.size<=cur.size:=by rw[q2];exact cS _ q3
   rcases tF (E:=E) p (.vec e t l) _ n v q8 hl with⟨rfl,rfl⟩ | ⟨h1,h2⟩
   ·simp[aB.eQ]at hf
   ·rw[hlen]at h2;rw[ue,eJ,dU ak]at h1;exact⟨pl,cur,e,rfl,q1,h1,ak⟩
theorem azI{E:Env}{v v':aB}(h:(aPD v).eval=some v'):(∀cs,V E v cs->V E v' cs)/\v'.agg=v.agg:=by
 unfold aPD at h;split at h
 ·rename_i t l;obtain⟨h1,h2⟩:=bS.1 h;obtain rfl:=ay.1 h2;refine⟨λcs hv=> ?_,rfl⟩;simp only[V,df]at hv ⊢;exact hv.1 (Option.isNone_iff_eq_none.1 h1)
 ·obtain rfl:=ay.1 h;exact⟨λ_ h=>h,rfl⟩
theorem aat(h:Inv C g β s a w){T:TypeId}{x:aB}{y:Value}(hx:VS (s.env w g β) x y){v:aB}(he:(QU P s T x).eval=some v):
  ∃ad z,y= .pointer (some ad)/\(loadVar T ad).run P w= .ok z w/\VS (s.env w g β) v z:=by
 unfold QU at he;split at he
 ·rename_i id ver p n;cases ml:s.obj id with
  |none=>rw[ml]at he;simp only[av]at he
  |some r=>
   obtain⟨v0,fr,c⟩:=r;rw[ml]at he;obtain⟨h1,h2⟩:=aC.1 he;obtain⟨⟨n',v'⟩,h3,h4⟩:=aw.1 h2;obtain⟨h5,h6⟩:=aC.1 h4;obtain⟨h7,h8⟩:=bS.1 h6;obtain⟨n1,n2⟩:=azI (E:=s.env w g β) h8;simp only[aW]at h7;have aQF:v0=ver:=by simpa using h1
   subst aQF h7;have cQ:=ee ml;obtain⟨ad,rfl,hb,hc⟩:=vU hx;obtain⟨pl,hp,rfl⟩:=hc ⟨fr,c,cQ⟩;obtain⟨ar2,_⟩:=s8 h5;obtain⟨pl',cur,e,hp',hh,hV,hle⟩:=azM (h.bJ id v0 fr c cQ) h3 ar2;rw[hp]at hp';obtain rfl:pl=pl':=by simpa using hp'
   obtain⟨z,VH,Tx⟩:=Bz (P:=P) (w:=w) h5 (b:=pl.b) (off:=n') hV.size (λj x hj=>by
    rw[cell_of_row w pl.b (n'+j) cur e (0,0) hh];rw[di]at hj;split at hj
    ·rw[fV]at hj;simpa using hj
    ·cases hj)
   exact⟨_,z,rfl,VH,VS.of (n1 _ hV) (by rw[n2];exact Tx)⟩
 ·rename_i t x';obtain⟨h1,h2⟩:=aC.1 he;obtain rfl:=ay.1 h2;obtain⟨b,off,vs,rfl,hr,hR⟩:=wX hx;obtain⟨z,VH,Tx⟩:=Bz (P:=P) (w:=w) h1 (b:=b) (off:=off) hR.size (λj x hj=>by
   obtain⟨b',off',e,hh⟩:=hr j x hj;simp only[az,Addr.mk.injEq,iQ]at e;obtain⟨rfl,rfl⟩:=e;exact hh.1)
  exact⟨_,z,rfl,VH,VS.of (by simpa only[V]using hR) Tx⟩
 ·rename_i t x';obtain⟨u,e,he⟩:=xu.1 he;subst e;have hx:=Qt hx;obtain⟨h1,h2⟩:=aC.1 he;obtain rfl:=ay.1 h2;obtain⟨b,off,vs,rfl,hr,hR⟩:=wX hx;obtain⟨z,VH,Tx⟩:=Bz (P:=P) (w:=w) h1 (b:=b) (off:=off) hR.size (λj x hj=>by
   obtain⟨b',off',e,hh⟩:=hr j x hj;simp only[az,Addr.mk.injEq,iQ]at e;obtain⟨rfl,rfl⟩:=e;exact hh.1)
  exact⟨_,z,rfl,VH,VS.of (by simpa only[V]using hR) Tx⟩
 ·simp only[av]at he
theorem azi(h:Inv C g β s a w){T:TypeId}{x:Operand}(ho:o.op= .load T x){v:aB}(he:(QU P s T (s.ev x)).eval=some v):fL P o a w (iB C (s.put o.dst v)):=by obtain⟨ad,z,hy,hr,hv⟩:=aat h (h.ev x) he;refine h.value hv (dW (f:=Instr.loadAt T (a.eval x)) (by simp only[execOp,ho]) ?_);simp[Instr.loadAt,Instr.sureAddr,hy,hr]
theorem Trans.setRow(w:World){b:Nat}{i:Id}(hg:g b= .own (.id i) 0)(cur:Array Value):Trans w (w.setRow b cur) g g:=by
 refine⟨by simp,by simp,by simp,by simp,λb' hb=> ?_⟩;by_cases he:b'=b
 ·subst he;rw[hg];exact⟨.inr ⟨i,0,rfl,ax _⟩,λ_ _ hh=>ak⟩
 ·rw[setRow_other w b b' cur he];cases Xa:g b' with
  |free=>exact⟨rfl,rfl⟩
  |own o' k=>cases o' with
   |eo=>exact⟨rfl,rfl⟩
   |id i'=>exact⟨.inr ⟨i',k,rfl,ax _⟩,λoff v _ hv=>by rw[cell_setRow_other w b cur _ he];exact hv⟩
theorem Inv.apart(h:Inv C g β s a w){id:Id}{k:Nat}{b:Nat}(hg:g b= .own (.id id) k){i:Id}{ver:Nat}{fr:Bool}{c:aB}{pl:Pl}(hi:i≠id)(hs:s.bW i=some (.obj ver fr c))(hp:β i=some pl):pl.b≠b:=by
 intro hb;have hl:(∃k,g pl.b= .own (.id i) k)\/(fr=true/\g pl.b= .free):=((h.bJ i ver fr c hs).label (pl:=pl) hp).2;rw[hb,hg]at hl;rcases hl with⟨k',hk⟩ | ⟨_,hk⟩
 ·simp only[mz.own.injEq,Own.id.injEq]at hk;exact hi hk.1.symm
 ·cases hk
theorem apM(h:Inv C g β s a w){T:TypeId}{x v:aB}{y z:Value}(hx:VS (s.env w g β) x y)(hz:VS (s.env w g β) v z){s':AS}(he:(JK P s T x v).eval=some s'):
  ∃ad w',y= .pointer (some ad)/\(storeVar T ad z).run P w= .ok () w'/\∃g' β',Inv C g' β' s' a w':=by
 unfold JK at he;split at he
 ·rename_i id ver p n;cases ml:s.obj id with
  |none=>rw[ml]at he;simp only[av]at he
  |some r=>
   obtain⟨v0,fr,c⟩:=r;rw[ml]at he;obtain⟨h1,h2⟩:=aC.1 he;obtain⟨⟨n',o'⟩,h3,h4⟩:=aw.1 h2;obtain⟨h5,h6⟩:=aC.1 h4;obtain⟨h7,h8⟩:=bS.1 h6;obtain⟨c',h9,aNo⟩:=aw.1 h8;obtain rfl:=ay.1 aNo;simp only[aW]at h7;simp only[au,dv,cC]at h1;obtain⟨⟨aQF,aOY⟩,Z3⟩:=h1;subst aQF h7 aOY;have cQ:=ee ml;obtain⟨ad,rfl,hb,hc⟩:=vU hx;obtain⟨pl,hp,rfl⟩:=hc ⟨false,c,cQ⟩;have hp:β id=some pl:=hp;obtain⟨ar2,_⟩:=s8 Z3;obtain⟨cs,hV,hO⟩:=hz.eQ ar2;have hOb:=h.bJ id v0 false c cQ;obtain⟨hcel',_⟩:=s8 h5;have aUq:c.iS=false\/c.iS=true:=by cases c.iS <;> simp
   rcases aUq with hn | hn
   ·obtain⟨pl',cur,e,hp',hh,hg,hk,hVc⟩:=hOb.box hn;have hp':β id=some pl':=hp';rw[hp]at hp';obtain rfl:pl=pl':=by simpa using hp'
    have hg:g pl.b= .own (.id id) 0:=hg;have hh:w.heap[pl.b]? =some (.cells cur e (0,0)):=hh
    have hN:=XO hk;have hNl:(cur.toList.take (c.xW cur.size)).length=c.xW cur.size:=by rw[bp,cK];omega
    obtain⟨u1,u2,u3⟩:=qU p c.strip (cur.toList.take (c.xW cur.size)) n' o' v c' cs (VO.of hVc) h3 hV h9;have u4:=u2.to (u3.uT hVc.uT);have tW:c'.size=c.strip.size:=by have e1:=u4.size;have e2:=hVc.size;rw[j5 u1]at e1;omega
    rw[hNl]at u1;have aFl:(dA cur.toList n' cs).length=cur.toList.length:=j5 (by have e1:cur.toList.length=cur.size:=cK;omega);have aUg:(dA cur.toList n' cs).take (c.xW cur.size)=dA (cur.toList.take (c.xW cur.size)) n' cs:=by
     conv=>lhs;rw[<-dq (c.xW cur.size) cur.toList]
     rw[CN (by rw[hNl];exact u1),fk (by rw[j5 (by rw[hNl];exact u1),hNl];exact ax _)];exact aY (by rw[j5 (by rw[hNl];exact u1),hNl];exact ax _)
    have gG:=Hn (P:=P) (w:=w) Z3 hV hO (b:=pl.b) (off:=n') hh (by have e1:cur.toList.length=cur.size:=cK;have e2:cs.toArray.size=cs.length:=iu;omega);have ht:=Trans.setRow w hg (dA cur.toList n' cs).toArray;have hle:cM (s.env w g β) ((s.bl id (.obj v0 false (c.wrap c'))).env (w.setRow pl.b (dA cur.toList n' cs).toArray) g β):=cM.bl cQ (ax _) ht (λ_ _=>rfl) (λ_=>rfl);refine⟨_,_,rfl,gG,g,β,h.step (dj _ _ _) ht hle (iZ.bl h.bJ (by rw[cQ];simp) hle (λ_ _=>rfl) (λi ver fr c pl2 hi Z4 XY=>⟨setRow_other w pl.b pl2.b _ (h.apart hg hi Z4 XY),rfl⟩) ?_ (qz cQ λk v1 l e=>by rw[e]at hn;simp[aB.iS]at hn))⟩;exact SF.obj ⟨pl,_,e,hp,setRow_heap w pl.b cur _ e (0,0) hh,hg,by rw[iu,aFl,cK];exact Nh hk u4.Bh tW,by
     rw[OU c u4.Bh,iu,aFl,cK,S0 u4.Bh tW,show(dA cur.toList n' cs).toArray.toList=dA cur.toList n' cs from rfl,aUg];exact V.mono hle u4⟩
   ·cases c <;> first | (simp[aB.iS]at hn;done) | skip
    rotate_left
    ·have h3:(loc (.mp _ _ _) p).eval=_:=h3;obtain⟨_,rfl⟩:=ajl h3;simp[aB.eQ]at hcel'
    ·have h3:(loc (.tC _ _ _ _ _ _) p).eval=_:=h3;obtain⟨_,rfl⟩:=X6 h3;simp[aB.eQ]at hcel'
    ·have h3:(loc (.rP _ _ _) p).eval=_:=h3;obtain⟨_,rfl⟩:=X7 h3;simp[aB.eQ]at hcel'
    rename_i e t l;obtain⟨aqv,hOb⟩:=hOb;have hOb:(match β id with
     |none=>l=[]
     |some pl=>∃cur k,w.heap[pl.b]? =some (.cells cur e (0,0))/\cur.size=pl.cap*t.size/\l.length<=pl.cap/\pl.cap<=maxLen/\g pl.b= .own (.id id) k/\
       k<=l.length*t.size/\(false=false->k=0)/\bD (df (s.env w g β) t) (cur.toList.take (l.length*t.size)) l):=hOb
    rw[hp]at hOb;obtain⟨cur,k,q1,q2,q3,q4,q5,q6,q7,q8⟩:=hOb;have hk:=q7 rfl;subst hk;have hlen:=bD.length (λc x hx=>df.size hx) q8;have tW:l.length*t.size<=cur.size:=by rw[q2];exact cS _ q3
    obtain⟨u1,u2,u3⟩:=qU (E:=s.env w g β) p (.vec e t l) _ n' o' v c' cs q8 h3 hV h9;rw[hlen]at u1;have gG:=Hn (P:=P) (w:=w) Z3 hV hO (b:=pl.b) (off:=n') q1 ak;cases c' <;> first | (exact u3.elim) | skip
    rename_i e' t' l';obtain⟨rfl,rfl,hl'⟩:=u3;have ht:=Trans.setRow w q5 (dA cur.toList n' cs).toArray;have hle:cM (s.env w g β) ((s.bl id (.obj v0 false (.vec e' t' l'))).env (w.setRow pl.b (dA cur.toList n' cs).toArray) g β):=cM.bl cQ (ax _) ht (λ_ _=>rfl) (λ_=>rfl);refine⟨_,_,rfl,gG,g,β,h.step (dj _ _ _) ht hle (iZ.bl h.bJ (by rw[cQ];simp) hle (λ_ _=>rfl) (λi ver fr c pl2 hi Z4 XY=>⟨setRow_other w pl.b pl2.b _ (h.apart q5 hi Z4 XY),rfl⟩) ?_ (qz cQ λk v1 l e=>by cases e))⟩;refine⟨aqv,?_⟩;show(match β id with
     |none=>l'=[]
     |some pl=>_)
    rw[hp];have aFl:(dA cur.toList n' cs).length=cur.toList.length:=j5 (by simp;omega);refine⟨_,0,setRow_heap w pl.b cur _ e' (0,0) q1,by rw[iu,aFl];simpa using q2,ak,q4,q5,ak,λ_=>rfl,?_⟩;have e2:(dA cur.toList n' cs).take (l'.length*t'.size)=dA (cur.toList.take (l.length*t'.size)) n' cs:=by
     rw[hl']
     conv=>lhs;rw[<-dq (l.length*t'.size) cur.toList]
     rw[CN (by rw[hlen];exact u1),fk (by rw[j5 (by rw[hlen];exact u1),hlen];exact ax _)];exact aY (by rw[j5 (by rw[hlen];exact u1),hlen];exact ax _)
    rw[show(dA cur.toList n' cs).toArray.toList=dA cur.toList n' cs from rfl,e2];exact bD.mono (λ_ _ hx=>hx.mono hle.mem) u2
 ·simp only[av]at he
theorem auj(h:Inv C g β s a w){T:TypeId}{x v:Operand}(ho:o.op= .store T x v){s':AS}(he:(JK P s T (s.ev x) (s.ev v)).eval=some s'):fL P o a w (iB C (s'.put o.dst .undef)):=by obtain⟨ad,w',hy,hr,g',β',hi⟩:=apM h (h.ev x) (h.ev v) he;refine .inr (.inl ⟨w',afX (f:=Instr.storeAt T (a.eval x) (a.eval v)) (by simp only[execOp,ho]) ?_,g',β',hi.put o.dst VS.undef⟩);simp[Instr.storeAt,Instr.sureAddr,hy,hr]
end
end Go.Ab
namespace Go.Ab
section
variable {P:Program} {C:Ctx} {g:Nat->mz} {β:Id->Option Pl} {s:AS} {a:Act} {w:World} {o:Oper}
theorem agr(h:Inv C g β s a w){x:Operand}(ho:o.op= .move x\/o.op= .assign x):fL P o a w (iB C (s.put o.dst (s.ev x))):=by
 refine h.value (h.ev x) ?_
 rcases ho with ho | ho <;> simp[execOp,ho]
theorem azZ(h:Inv C g β s a w){c x y:Operand}(ho:o.op= .pick c x y){v:aB}(he:(awn (s.ev c) (s.ev x) (s.ev y)).eval=some v):fL P o a w (iB C (s.put o.dst v)):=by
 have hc:=h.ev c;have hx:=h.ev x;have hy:=h.ev y;unfold awn at he;split at he
 ·rename_i b hb;rw[hb]at hc;have aWq:=XN hc;have hr:(execOp a.eval o).run P w= .ok (.value (if b then a.eval x else a.eval y)) w:=by simp[execOp,ho,aWq,asBool]
  split at he
  ·rename_i bx by' aWl aWm;obtain rfl:=ay.1 he;rw[aWl]at hx;rw[aWm]at hy;refine h.value ?_ hr
   cases b
   ·simpa using hy
   ·simpa using hx
  ·cases b with
   |true=>
    simp only[Out.eval,az]at he;subst he;exact h.value (by simpa using hx) hr
   |false=>
    simp only[Out.eval,az]at he;subst he;exact h.value (by simpa using hy) hr
 ·simp only[av]at he
theorem aei(h:Inv C g β s a w){x:Operand}(ho:o.op= .nilCheck x){s':AS}(he:(match s.ev x with
  | .ptr id v p n=>Out.ok (s.put o.dst (.ptr id v p n))
  | .dO t y=> .ok (s.put o.dst (.dO t y))
  | .d (.uH t) y=> .get (y:Option t.den) λy=> .ok (s.put o.dst (.dO t y))
  | .fn f c=> .ok (s.put o.dst (.fn f c))
  |_=> .fail).eval=some s'):fL P o a w (iB C s'):=by
 have hx:=h.ev x;split at he
 ·rename_i id v p n hv;obtain rfl:=ay.1 he;rw[hv]at hx;obtain⟨ad,hy,_⟩:=vU hx;exact h.value hx (by simp[execOp,ho,hy])
 ·rename_i t y hv;obtain rfl:=ay.1 he;rw[hv]at hx;obtain⟨b,off,vs,hy,_⟩:=wX hx;exact h.value hx (by simp[execOp,ho,hy])
 ·rename_i t y hv;obtain⟨z,e,he⟩:=xu.1 he;subst e;obtain rfl:=ay.1 he;rw[hv]at hx;have hx:=Qt hx;obtain⟨b,off,vs,hy,_⟩:=wX hx;exact h.value hx (by simp[execOp,ho,hy])
 ·rename_i f c hv;obtain rfl:=ay.1 he;rw[hv]at hx;obtain⟨cs,hV,hO⟩:=hx.eQ rfl;simp only[V]at hV;obtain⟨vs,e,hc⟩:=hV;have hO':cs=[a.eval x]:=hO;rw[e]at hO';have hy:a.eval x= .func (.func f) #[] vs.toArray:=by simpa using hO'.symm
  refine h.value (v:= .fn f c) ⟨cs,by simp only[V];exact⟨vs,e,hc⟩,hO⟩ (by simp[execOp,ho,hy])
 ·simp only[av]at he
theorem anB{op:BinOp}{k k':IntKind}{x y:Int}{v:aB}(he:(aFH op k x k' y).eval=some v)(T:TypeId)(E:Env):
  ∃z,(binOp op T (.int k x) (.int k' y)).run P w= .ok z w/\VS E v z:=by
 unfold aFH at he;have same:∀(hk:decide (k=k')=true),k=k':=λhk=>by simpa using hk
 cases op with
 |shl=>
  obtain⟨h1,h2⟩:=bS.1 he;obtain rfl:=ay.1 h2;have h1:¬y < 0:=by simpa using h1
  exact⟨_,by simp[binOp,Op.shift,h1],l5 _ _⟩
 |shr=>
  obtain⟨h1,h2⟩:=bS.1 he;obtain rfl:=ay.1 h2;have h1:¬y < 0:=by simpa using h1
  exact⟨_,by simp[binOp,Op.shift,h1],l5 _ _⟩
 |quo=>
  obtain⟨h1,h2⟩:=aC.1 he;obtain rfl:=same h1;obtain⟨h3,h4⟩:=bS.1 h2;obtain rfl:=ay.1 h4;have h3:y≠0:=by simpa using h3
  exact⟨_,by simp[binOp,Op.intDiv,h3],l5 _ _⟩
 |rem=>
  obtain⟨h1,h2⟩:=aC.1 he;obtain rfl:=same h1;obtain⟨h3,h4⟩:=bS.1 h2;obtain rfl:=ay.1 h4;have h3:y≠0:=by simpa using h3
  exact⟨_,by simp[binOp,Op.intDiv,h3],l5 _ _⟩
 |add | sub | mul=>
  obtain⟨h1,h2⟩:=aC.1 he;obtain rfl:=same h1;obtain rfl:=ay.1 h2;exact⟨_,by simp[binOp,Op.intArith],l5 _ _⟩
 |and | or | xor | andNot=>
  obtain⟨h1,h2⟩:=aC.1 he;obtain rfl:=same h1;obtain rfl:=ay.1 h2;refine⟨_,?_,l5 _ _⟩;unfold binOp Op.intBits;simp[cG]
 |eql | neq | lss | leq | gtr | geq=>
  obtain⟨h1,h2⟩:=aC.1 he;obtain rfl:=same h1;obtain rfl:=ay.1 h2;refine⟨_,?_,wk _⟩;simp[binOp,Op.intCmp]
theorem apN{op:BinOp}{x y:ByteArray}{v:aB}(he:(aIo op x y).eval=some v)(T:TypeId)(E:Env):
  ∃z,(binOp op T (.string x) (.string y)).run P w= .ok z w/\VS E v z:=by
 unfold aIo at he;cases op <;> simp only[av]at he
 case add=>
  obtain⟨h1,h2⟩:=bS.1 he;obtain rfl:=ay.1 h2;have h1:¬((x.size+y.size:Nat):Int) > IntKind.i64.max:=by simpa using h1
  refine⟨.string (x++y),?_,ahD _⟩;show(Op.stringOp .add x y).run P w=_;unfold Op.stringOp;simp only[h1,bt];rfl
 all_goals
  obtain rfl:=ay.1 he;exact⟨_,by simp[binOp,Op.stringOp],wk _⟩
theorem ow{op:BinOp}{T:TypeId}{x y:Operand}{u v:Value}(h1:u≠ .nilIface)(h2:te u=false):(eqGuard op T x y u v).run P w= .ok () w:=by
 unfold eqGuard;cases op <;> simp
 all_goals (cases u <;> simp_all [te])
theorem zy{T:TypeId}{b:Bool}(h:N4 P T b=true):∃i,P.info? T=some i/\∀w,(isAgg T).run P w= .ok b w:=by
 unfold N4 at h;cases hu:P.underlying T with
 |none=>rw[hu]at h;cases h
 |some d=>
  obtain⟨i,hi⟩:=avU hu;refine⟨i,hi,λw=> ?_⟩;rw[hu]at h;unfold isAgg;rw[Sem.run_bind,run_underlying hu w];cases d <;> simp at h <;> simp[h]
theorem xI{T:TypeId}{b:Bool}(h:N4 P T b=true){cs:List Value}{off n:Nat}(hn:P.cellsOf T=n)(hb:b=false->n=1)(hl:off+n<=cs.length):
  ∃y,(part T cs.toArray off).run P w= .ok y w/\fT b ((cs.drop off).take n) y:=by
 obtain⟨i,hi,anf⟩:=zy h;rw[nD hi]at hn;unfold part;rw[Sem.run_bind,anf w];simp only[Result.andThen_ok];cases b with
 |true=>
  refine⟨.agg ((cs.drop off).take n).toArray,?_,rfl⟩;simp only[bG,Sem.run_bind,run_sizeOf hi,Result.andThen_ok,hn,Sem.run_pure];simp[List.extract_eq_take_drop]
 |false=>
  have h1:=hb rfl;subst h1;have gQ:off < cs.length:=ak;refine⟨cs[off],?_,?_⟩
  ·simp[gQ]
  ·show(cs.drop off).take 1=[cs[off]];rw[aq gQ,List.take_succ_cons,dH]
theorem xK{t:Ty}(h:t.agg=false):t.size=1:=by cases t <;> first | rfl | (simp[Ty.agg]at h)
theorem ID{α:Type}(f:α->α->Bool)(x y:α)(xs ys:List α):mu f (x::xs) (y::ys)=(f x y && mu f xs ys):=rfl
theorem wA(E:Env):∀(n:Nat) (T:TypeId) (t:Ty),tx P n T t=true->∀(d:Nat),n<=d->∀(cx cy:List Value) (x y:t.den) (u v:Value),df E t cx x->df E t cy y->fT t.agg cx u->fT t.agg cy v->
  (Op.equalIn d T u v).run P w= .ok (t.beq x y) w
 | 0,T,t,h,_,_,_,_,_,_,_,_,_,_,_,_=>by simp[tx]at h
 |n+1,T,t,h,0,hd,_,_,_,_,_,_,_,_,_,_=>ak
 |n+1,T,t,h,d+1,hd,cx,cy,x,y,u,v,hx,hy,hu,hv=>by
  simp only[tx]at h;split at h
  ·rename_i k k' hT;simp only[df]at hx hy;have e1:cx=[u]:=hu;have e2:cy=[v]:=hv;rw[hx]at e1;rw[hy]at e2;simp only[dh,iQ]at e1 e2;subst e1 e2;rw[run_equalIn_int w d T _ _ _ _ hT];rfl
  ·rename_i hT;simp only[df]at hx hy;have e1:cx=[u]:=hu;have e2:cy=[v]:=hv;rw[hx]at e1;rw[hy]at e2;simp only[dh,iQ]at e1 e2;subst e1 e2;rw[run_equalIn_bool' w d T _ _ hT];rfl
  ·rename_i hT;simp only[df]at hx hy;have e1:cx=[u]:=hu;have e2:cy=[v]:=hv;rw[hx]at e1;rw[hy]at e2;simp only[dh,iQ]at e1 e2;subst e1 e2;rw[run_equalIn_string w d T _ _ hT];rfl
  ·rename_i m e m' t' hT;simp only[au,dv]at h;obtain⟨⟨⟨⟨rfl,aPj⟩,tW⟩,Pc⟩,wB⟩:=h;simp only[df]at hx hy;obtain⟨aTV,aTH⟩:=hx;obtain⟨aWJ,aWr⟩:=hy;have e1:u= .agg cx.toArray:=hu;have e2:v= .agg cy.toArray:=hv;subst e1 e2;obtain⟨i,hi,anf⟩:=zy Pc;have hsz':=tW;rw[nD hi]at hsz';simp only[Op.equalIn,Sem.run_bind,run_underlying hT,Result.andThen_ok,run_sizeOf hi,hsz'];simp only[Std.Legacy.Range.forIn_eq_forIn_range'];have hm:([:m]:Std.Legacy.Range).size=m:=by simp[Std.Legacy.Range.size]
   rw[hm];have aqv:∀c z,df E t' c z->c.length=t'.size:=λc z hz=>hz.size
   have bx:t'.agg=false->t'.size=1:=xK
   have key:∀(k:Nat) (x y:List t'.den) (j:Nat),x.length=k->y.length=k->bD (df E t') (cx.drop (j*t'.size)) x->bD (df E t') (cy.drop (j*t'.size)) y->
     (forIn (List.range' j k) ((none,()):Option Bool×Unit) λi __s=>(do
      let __do_lift <-part e cx.toArray (i*t'.size)
      let __do_lift_1 <-part e cy.toArray (i*t'.size)
      let __do_lift <-Op.equalIn d e __do_lift __do_lift_1
      if(!__do_lift)=true then pure (ForInStep.done (some false,())) else pure (ForInStep.yield (none,())):Sem (ForInStep (Option Bool×Unit)))).run P w= .ok (if mu t'.beq x y then none else some false,()) w:=by
    intro k
    induction k with
    |zero=>
     intro x y j hx hy _ _;rw[List.length_eq_zero_iff.1 hx,List.length_eq_zero_iff.1 hy];rfl
    |succ k ih=>
     intro x y j hx hy hcx' hcy';cases x with
     |nil=>simp at hx
     |cons x0 xs=>
      cases y with
      |nil=>simp at hy
      |cons y0 ys=>
       have gx:=bD.get aqv hcx' 0 (by simp);have gy:=bD.get aqv hcy' 0 (by simp);simp only[nu,aD,List.getElem_cons_zero]at gx gy;have lenx:((cx.drop (j*t'.size)).take t'.size).length=t'.size:=gx.size;have leny:((cy.drop (j*t'.size)).take t'.size).length=t'.size:=gy.size;have VH:t'.size≠0:=by simpa using aPj
       have aTR:j*t'.size+t'.size<=cx.length:=by simp only[bp,dp]at lenx;omega
       have aWF:j*t'.size+t'.size<=cy.length:=by simp only[bp,dp]at leny;omega
       obtain⟨ux,h1,o1⟩:=xI (w:=w) Pc tW bx (cs:=cx) (off:=j*t'.size) aTR;obtain⟨uy,h2,o2⟩:=xI (w:=w) Pc tW bx (cs:=cy) (off:=j*t'.size) aWF;have h3:=wA E n e t' wB d ak _ _ x0 y0 ux uy gx gy o1 o2;have nx:bD (df E t') (cx.drop ((j+1)*t'.size)) xs:=by have:=bD.drop aqv 1 hcx';rw[fU]at this;simpa[eE]using this
       have ny:bD (df E t') (cy.drop ((j+1)*t'.size)) ys:=by have:=bD.drop aqv 1 hcy';rw[fU]at this;simpa[eE]using this
       have:=ih xs ys (j+1) (by simpa using hx) (by simpa using hy) nx ny;rw[List.range'_succ,List.forIn_cons];simp only[Sem.run_bind,h1,h2,h3,Result.andThen_ok,ID];rcases je (t'.beq x0 y0) with hb | hb
       ·simp only[hb,cm,bn,bt,Sem.run_pure,Result.andThen_ok,bw];exact this
       ·simp only[hb,fb,bG,Sem.run_pure,Result.andThen_ok,cH,bn,bt]
   have:=key m x y 0 aTV aWJ (by simpa using aTH) (by simpa using aWr);rw[this];show _=Result.ok (mu t'.beq x y) w;cases mu t'.beq x y <;> rfl
  ·rename_i t0 _ _ fs hT;simp only[au,cC]at h;obtain⟨mG,aOZ⟩:=h;have hF:P.fieldsOf T=fs:=by simp[Program.fieldsOf,hT]
   have hT':P.underlying T=some (.struct (P.fieldsOf T)):=by rw[hF];exact hT
   have key:∀(fl:List Field) (t:Ty) (off:Nat),NL P (tx P n) fl t off=true->∀(x y:t.den),df E t (cx.drop off) x->df E t (cy.drop off) y->
     (Op.eqFields d cx.toArray cy.toArray fl).run P w= .ok (t.beq x y) w:=by
    intro fl
    induction fl with
    |nil=>
     intro t off hc x y _ _;cases t <;> first | (simp[NL]at hc;done) | rfl
    |cons f fl ih=>
     intro t off hc x y hx hy;cases t <;> first | (simp[NL]at hc;done) | skip
     rename_i ta tb;simp only[NL,au,cC,dv,gE]at hc;obtain⟨⟨⟨⟨⟨⟨aT2,aLe⟩,hz⟩,tW⟩,Pc⟩,wB⟩,aFi⟩:=hc;simp only[df]at hx hy;obtain⟨xa,xb,ex,aR4,aUr⟩:=hx;obtain⟨ya,yb,ey,aVN,aW5⟩:=hy;have bx:ta.agg=false->ta.size=1:=xK;have lx:xa.length=ta.size:=aR4.size;have ly:ya.length=ta.size:=aVN.size;have split:∀(cs xa xb:List Value),cs.drop off=xa++xb->xa.length=ta.size->(cs.drop off).take ta.size=xa/\cs.drop (off+ta.size)=xb/\off+ta.size<=cs.length:=by intro cs xa xb e l;refine⟨by rw[e];exact kX l,by rw[<-fU,e];exact kW l,?_⟩;have:=bo ag e;simp only[dp,ai]at this;omega
     obtain⟨sx1,sx2,sx3⟩:=split cx xa xb ex lx;obtain⟨sy1,sy2,sy3⟩:=split cy ya yb ey ly;obtain⟨ux,h1,o1⟩:=xI (w:=w) Pc tW bx (cs:=cx) (off:=off) sx3;obtain⟨uy,h2,o2⟩:=xI (w:=w) Pc tW bx (cs:=cy) (off:=off) sy3;rw[sx1]at o1;rw[sy1]at o2;have h3:=wA E n f.type ta wB d ak _ _ x.1 y.1 ux uy aR4 aVN o1 o2;have h4:=ih tb (off+ta.size) aFi x.2 y.2 (by rw[sx2];exact aUr) (by rw[sy2];exact aW5);simp only[Op.eqFields,ne_eq,aT2,not_false_eq_true,bG,Sem.run_bind,aLe,h1,h2,h3,Result.andThen_ok];show _=Result.ok (ta.beq x.1 y.1 && tb.beq x.2 y.2) w;rcases je (ta.beq x.1 y.1) with hb | hb
     ·simp only[hb,cm,bn,bt,bw];exact h4
     ·simp[hb]
   have Pc:t0.agg=true:=by cases hl:fs.toList <;> rw[hl]at aOZ <;> cases t0 <;> first | rfl | (simp[NL]at aOZ;done)
   rw[Pc]at hu hv;have e1:u= .agg cx.toArray:=hu;have e2:v= .agg cy.toArray:=hv;subst e1 e2;rw[run_equalIn_struct w d T _ _ hT' mG,hF];exact key fs.toList t0 0 aOZ x y (by simpa using hx) (by simpa using hy)
  ·cases h
end
end Go.Ab
namespace Go.Ab
section
variable {P:Program} {C:Ctx} {g:Nat->mz} {β:Id->Option Pl} {s:AS} {a:Act} {w:World} {o:Oper}
theorem aGD{E:Env}{v:aB}{y c:Value}(h:VS E v y)(hc:v.eQ=true)(ha:v.agg=false)(hV:∀cs,V E v cs->cs=[c]):y=c:=by have:=h.single hc ha;simpa using hV _ this
theorem KP{E:Env}{y:Value}(h:VS E .ri y):y= .pointer none:=aGD h rfl rfl λcs hv=>by simpa only[V]using hv
theorem Ya{E:Env}{y:Value}(h:VS E .xA y):y= .nilFunc:=aGD h rfl rfl λcs hv=>by simpa only[V]using hv
theorem ZR{E:Env}{f:FuncId}{c:aB}{y:Value}(h:VS E (.fn f c) y):∃vs,y= .func (.func f) #[] vs.toArray/\VC E c vs:=by have h1:=h.single rfl rfl;simp only[V]at h1;obtain⟨vs,e,hc⟩:=h1;exact⟨vs,by simpa using e,hc⟩
theorem fu{T:TypeId}{u v:Value}{b:Bool}(h:∀d,(Op.equalIn (d+1) T u v).run P w= .ok b w):(Op.equal T u v).run P w= .ok b w:=h 9999
theorem ZK{T:TypeId}{x y:aB}{u v:Value}{E:Env}(hx:VS E x u)(hy:VS E y v){b:Bool}(he:(BY P T x y).eval=some b):
  (Op.equal T u v).run P w= .ok b w/\u≠ .nilIface/\(te u=false\/(te v=true/\P.eqGuardType P.depth T=false))/\
   (∀op,binOp op T u v=(match op with | .eql=>do pure (.bool (<-Op.equal T u v)) | .neq=>do pure (.bool (!(<-Op.equal T u v))) | _=>binOp op T u v)):=by
 unfold BY at he;split at he
 ·rename_i t x' t' y';obtain⟨y'',h1,h2⟩:=aw.1 he;obtain⟨rfl,h1⟩:=jO (ku.1 h1);simp only at h1;subst h1;obtain⟨h3,h4⟩:=aC.1 h2;obtain rfl:=ay.1 h4;simp only[au,gf,cC,aW]at h3;obtain⟨h3,h5⟩:=h3;obtain⟨cx,hVx,hOx⟩:=hx.eQ rfl;obtain⟨cy,hVy,hOy⟩:=hy.eQ rfl;simp only[V]at hVx hVy;have hr:=wA (w:=w) E depth T t' h5 10000 (by decide) cx cy x' y' u v hVx hVy hOx hOy;refine⟨hr,?_⟩;rcases h3 with⟨Pc,aWA⟩ | rfl
  ·have hOx':fT t'.agg cx u:=hOx;have hOy':fT t'.agg cy v:=hOy;rw[Pc]at hOx' hOy';have e1:u= .agg cx.toArray:=hOx';have e2:v= .agg cy.toArray:=hOy';subst e1 e2;exact⟨by simp,.inr ⟨rfl,aWA⟩,λop=>by cases op <;> rfl⟩
  ·simp only[df]at hVx hVy;have e1:cx=[u]:=hOx;have e2:cy=[v]:=hOy;rw[hVx]at e1;rw[hVy]at e2;simp only[dh,iQ]at e1 e2;subst e1 e2;exact⟨by simp,.inl rfl,λop=>by cases op <;> rfl⟩
 ·obtain⟨h1,h2⟩:=aC.1 he;obtain rfl:=ay.1 h2;rw[lN hx,lN hy];unfold BY.isSl at h1;split at h1 <;> try (cases h1;done)
  rename_i e hT;exact⟨fu λd=>by simp[Op.equalIn,run_underlying hT],by simp,.inl rfl,λop=>by cases op <;> rfl⟩
 ·obtain⟨h1,h2⟩:=aC.1 he;obtain⟨h3,h4⟩:=bS.1 h2;obtain rfl:=ay.1 h4;obtain⟨ad,cap,vs,rfl,_,hs,_⟩:=u6 hx;rw[lN hy];have hs:=hs (by simpa using h3);obtain⟨ad',rfl⟩:=bO.1 hs;unfold BY.isSl at h1;split at h1 <;> try (cases h1;done)
  rename_i e hT;exact⟨fu λd=>by simp[Op.equalIn,run_underlying hT],by simp,.inl rfl,λop=>by cases op <;> rfl⟩
 ·obtain⟨h1,h2⟩:=aC.1 he;obtain⟨h3,h4⟩:=bS.1 h2;obtain rfl:=ay.1 h4;obtain⟨ad,cap,vs,rfl,_,hs,_⟩:=u6 hy;rw[lN hx];have hs:=hs (by simpa using h3);obtain⟨ad',rfl⟩:=bO.1 hs;unfold BY.isSl at h1;split at h1 <;> try (cases h1;done)
  rename_i e hT;exact⟨fu λd=>by simp[Op.equalIn,run_underlying hT],by simp,.inl rfl,λop=>by cases op <;> rfl⟩
 ·obtain⟨h1,h2⟩:=aC.1 he;obtain⟨h3,h4⟩:=bS.1 h2;obtain rfl:=ay.1 h4;obtain⟨ad,cap,rfl,_,hs,_⟩:=sM hx;rw[lN hy];have hs:=hs (by simpa using h3);obtain⟨ad',rfl⟩:=bO.1 hs;unfold BY.isSl at h1;split at h1 <;> try (cases h1;done)
  rename_i e hT;exact⟨fu λd=>by simp[Op.equalIn,run_underlying hT],by simp,.inl rfl,λop=>by cases op <;> rfl⟩
 ·obtain⟨h1,h2⟩:=aC.1 he;obtain⟨h3,h4⟩:=bS.1 h2;obtain rfl:=ay.1 h4;obtain⟨ad,cap,rfl,_,hs,_⟩:=sM hy;rw[lN hx];have hs:=hs (by simpa using h3);obtain⟨ad',rfl⟩:=bO.1 hs;unfold BY.isSl at h1;split at h1 <;> try (cases h1;done)
  rename_i e hT;exact⟨fu λd=>by simp[Op.equalIn,run_underlying hT],by simp,.inl rfl,λop=>by cases op <;> rfl⟩
 ·obtain⟨h1,h2⟩:=aC.1 he;obtain rfl:=ay.1 h2;rw[KP hx,KP hy];unfold BY.isPt at h1;split at h1 <;> try (cases h1;done)
  rename_i e hT;exact⟨fu λd=>by simp[Op.equalIn,run_underlying hT],by simp,.inl rfl,λop=>by cases op <;> rfl⟩
 ·obtain⟨h1,h2⟩:=aC.1 he;obtain rfl:=ay.1 h2;obtain⟨ad,rfl,_⟩:=vU hx;rw[KP hy];unfold BY.isPt at h1;split at h1 <;> try (cases h1;done)
  rename_i e hT;exact⟨fu λd=>by simp[Op.equalIn,run_underlying hT],by simp,.inl rfl,λop=>by cases op <;> rfl⟩
 ·obtain⟨h1,h2⟩:=aC.1 he;obtain rfl:=ay.1 h2;obtain⟨ad,rfl,_⟩:=vU hy;rw[KP hx];unfold BY.isPt at h1;split at h1 <;> try (cases h1;done)
  rename_i e hT;exact⟨fu λd=>by simp[Op.equalIn,run_underlying hT],by simp,.inl rfl,λop=>by cases op <;> rfl⟩
 ·rename_i t q;obtain⟨h1,h2⟩:=aC.1 he;obtain rfl:=ay.1 h2;unfold BY.isPt at h1;split at h1 <;> try (cases h1;done)
  rename_i e hT;rw[KP hy];cases q with
  |none=>
   rw[af8 hx];exact⟨fu λd=>by simp[Op.equalIn,run_underlying hT],by simp,.inl rfl,λop=>by cases op <;> rfl⟩
  |some z=>
   obtain⟨b,off,vs,rfl,_⟩:=wX (Qt hx);exact⟨fu λd=>by simp[Op.equalIn,run_underlying hT],by simp,.inl rfl,λop=>by cases op <;> rfl⟩
 ·rename_i t q;obtain⟨h1,h2⟩:=aC.1 he;obtain rfl:=ay.1 h2;unfold BY.isPt at h1;split at h1 <;> try (cases h1;done)
  rename_i e hT;rw[KP hx];cases q with
  |none=>
   rw[af8 hy];exact⟨fu λd=>by simp[Op.equalIn,run_underlying hT],by simp,.inl rfl,λop=>by cases op <;> rfl⟩
  |some z=>
   obtain⟨b,off,vs,rfl,_⟩:=wX (Qt hy);exact⟨fu λd=>by simp[Op.equalIn,run_underlying hT],by simp,.inl rfl,λop=>by cases op <;> rfl⟩
 ·obtain⟨h1,h2⟩:=aC.1 he;obtain rfl:=ay.1 h2;rw[Ya hx,Ya hy];unfold BY.isFn at h1;split at h1 <;> try (cases h1;done)
  rename_i hT;exact⟨fu λd=>by simp[Op.equalIn,run_underlying hT],by simp,.inl rfl,λop=>by cases op <;> rfl⟩
 ·obtain⟨h1,h2⟩:=aC.1 he;obtain rfl:=ay.1 h2;obtain⟨vs,rfl,_⟩:=ZR hx;rw[Ya hy];unfold BY.isFn at h1;split at h1 <;> try (cases h1;done)
  rename_i hT;exact⟨fu λd=>by simp[Op.equalIn,run_underlying hT],by simp,.inl rfl,λop=>by cases op <;> rfl⟩
 ·obtain⟨h1,h2⟩:=aC.1 he;obtain rfl:=ay.1 h2;obtain⟨vs,rfl,_⟩:=ZR hy;rw[Ya hx];unfold BY.isFn at h1;split at h1 <;> try (cases h1;done)
  rename_i hT;exact⟨fu λd=>by simp[Op.equalIn,run_underlying hT],by simp,.inl rfl,λop=>by cases op <;> rfl⟩
 ·simp only[av]at he
theorem amW{op:BinOp}{T:TypeId}{x y:Operand}{u v:Value}(hu:te u=true)(hv:te v=true)(hm:P.eqGuardType P.depth T=false):(eqGuard op T x y u v).run P w= .ok () w:=by
 cases u <;> first | (simp[te]at hu;done) | skip
 cases v <;> first | (simp[te]at hv;done) | skip
 exact run_eqGuard_agg w op T x y _ _ hm
theorem aqT(h:Inv C g β s a w){op:BinOp}{T U:TypeId}{x y:Operand}(ho:o.op= .binOp op T x y U){v:aB}(he:(aOg P T op (s.ev x) (s.ev y)).eval=some v):fL P o a w (iB C (s.put o.dst v)):=by
 have hx:=h.ev x;have hy:=h.ev y;have fin:∀z,(binOp op T (a.eval x) (a.eval y)).run P w= .ok z w->(eqGuard op T x y (a.eval x) (a.eval y)).run P w= .ok () w->VS (s.env w g β) v z->fL P o a w (iB C (s.put o.dst v)):=by
  intro z h1 h2 h3;refine h.value h3 ?_
  simp[execOp,ho,h1,h2]
 unfold aOg at he;split at he
 ·rename_i k n k' m hn hm;rw[hn]at hx;rw[hm]at hy;have e1:=vH hx;have e2:=vH hy;obtain⟨z,h1,h2⟩:=anB (P:=P) (w:=w) he T (s.env w g β);exact fin z (by rw[e1,e2];exact h1) (by rw[e1,e2];exact ow (by simp) rfl) h2
 ·rename_i n m hn hm;rw[hn]at hx;rw[hm]at hy;have e1:=JL hx;have e2:=JL hy;obtain⟨z,h1,h2⟩:=apN (P:=P) (w:=w) he T (s.env w g β);exact fin z (by rw[e1,e2];exact h1) (by rw[e1,e2];exact ow (by simp) rfl) h2
 ·have grd:(te (a.eval x)=false\/(te (a.eval y)=true/\P.eqGuardType P.depth T=false))->a.eval x≠ .nilIface->(eqGuard op T x y (a.eval x) (a.eval y)).run P w= .ok () w:=by
   intro hh gF;rcases hh with hh | ⟨hh,hm⟩
   ·exact ow gF hh
   ·rcases je (te (a.eval x)) with hx | hx
    ·exact amW hx hh hm
    ·exact ow gF hx
  split at he
  ·obtain⟨b,h1,h2⟩:=aw.1 he;obtain rfl:=ay.1 h2;obtain⟨q1,q2,q3,q4⟩:=ZK (w:=w) hx hy h1;refine fin (.bool b) ?_ (grd q3 q2) (wk b)
   rw[q4 .eql];simp[q1]
  ·obtain⟨b,h1,h2⟩:=aw.1 he;obtain rfl:=ay.1 h2;obtain⟨q1,q2,q3,q4⟩:=ZK (w:=w) hx hy h1;refine fin (.bool (!b)) ?_ (grd q3 q2) (wk (!b))
   rw[q4 .neq];simp[q1]
  ·simp only[av]at he
theorem aBP(h:Inv C g β s a w){op:UnOp}{T:TypeId}{x:Operand}(ho:o.op= .unOp op T x){v:aB}(he:(aTa op (s.ev x)).eval=some v):fL P o a w (iB C (s.put o.dst v)):=by
 have hx:=h.ev x;unfold aTa at he;split at he
 ·rename_i b hb;rw[hb]at hx;obtain rfl:=ay.1 he;exact h.value (wk _) (by simp[execOp,ho,XN hx,Op.unary])
 ·rename_i k n hb;rw[hb]at hx;obtain rfl:=ay.1 he;exact h.value (l5 _ _) (by simp[execOp,ho,vH hx,Op.unary,Op.intArith])
 ·rename_i k n hb;rw[hb]at hx;obtain rfl:=ay.1 he;refine h.value (l5 _ _) ?_
  simp only[execOp,ho,vH hx,Op.unary,Op.intBits];simp[cG]
 ·simp only[av]at he
end
end Go.Ab
namespace Go.Ab
section
variable {P:Program} {C:Ctx} {g:Nat->mz} {β:Id->Option Pl} {s:AS} {a:Act} {w:World} {o:Oper}
theorem AD{E:Env}{v:aB}{y:Value}(h:VS E v y){n:Int}(he:(asInt v).eval=some n):∃k,y= .int k n:=by
 unfold asInt at he;split at he
 ·rename_i k m;obtain rfl:=ay.1 he;exact⟨k,vH h⟩
 ·simp only[av]at he
theorem Au{k:IntKind}{i:Int}{y:Nat}(code:BoundsCode)(h:0<=i/\i<=(y:Int)):(Instr.sliceBound (.int k i) y code).run P w= .ok i.toNat w:=run_sliceBound w k i y code h.1 h.2
theorem yO(h:Inv C g β s a w){n cap:Nat}(hn:n<=cap){lo hi:Option Operand}{r:Nat×Nat}(he:(bounds s n lo hi).eval=some r)(isS:Bool){mx:Option Value}{cap':Nat}
  (hm:(mx=none/\cap'=cap)\/∃k mv,hi.isSome=true/\mx=some (.int k mv)/\(r.2:Int)<=mv/\mv<=n/\cap'=mv.toNat):
  (Instr.sliceBounds isS n cap (lo.map a.eval) (hi.map a.eval) mx).run P w= .ok (r.1,r.2,cap') w/\r.1<=r.2/\r.2<=n:=by
 unfold bounds at he;obtain⟨hh,h1,h2⟩:=aw.1 he;obtain⟨ll,h3,h4⟩:=aw.1 h2;obtain rfl:=ay.1 h4;have aNv:hh<=n/\∀y,hi.map a.eval=some y->∃k i,y= .int k i/\0<=i/\i<=(n:Int)/\hh=i.toNat:=by
  cases hi with
  |none=>
   simp only at h1;obtain rfl:=ay.1 h1;exact⟨ax _,λy hy=>by cases hy⟩
  |some x=>
   simp only at h1;obtain⟨i,q1,q2⟩:=aw.1 h1;obtain⟨q3,q4⟩:=bS.1 q2;obtain rfl:=ay.1 q4;simp only[aW]at q3;obtain⟨k,hk⟩:=AD (h.ev x) q1;refine⟨ak,λy hy=> ?_⟩;simp only[dV,az]at hy;exact⟨k,i,by rw[<-hy];exact hk,q3.1,q3.2,rfl⟩
 have aK7:hi.map a.eval=none->hh=n:=by
  intro hy;cases hi with
  |none=>simp only at h1;exact(ay.1 h1).symm
  |some x=>cases hy
 have lo1:ll<=hh/\∀y,lo.map a.eval=some y->∃k i,y= .int k i/\0<=i/\i<=(hh:Int)/\ll=i.toNat:=by
  cases lo with
  |none=>
   simp only at h3;obtain rfl:=ay.1 h3;exact⟨aK _,λy hy=>by cases hy⟩
  |some x=>
   simp only at h3;obtain⟨i,q1,q2⟩:=aw.1 h3;obtain⟨q3,q4⟩:=bS.1 q2;obtain rfl:=ay.1 q4;simp only[aW]at q3;obtain⟨k,hk⟩:=AD (h.ev x) q1;refine⟨ak,λy hy=> ?_⟩;simp only[dV,az]at hy;exact⟨k,i,by rw[<-hy];exact hk,q3.1,q3.2,rfl⟩
 have lo0:lo.map a.eval=none->ll=0:=by
  intro hy;cases lo with
  |none=>simp only at h3;exact(ay.1 h3).symm
  |some x=>cases hy
 refine⟨?_,lo1.1,aNv.1⟩;unfold Instr.sliceBounds;rcases hm with⟨rfl,rfl⟩ | ⟨k2,mv,hs,rfl,aVD,aTW,rfl⟩
 ·cases aSR:hi.map a.eval with
  |none=>
   obtain rfl:=aK7 aSR;cases XX:lo.map a.eval with
   |none=>
    obtain rfl:=lo0 XX;rfl
   |some y=>
    obtain⟨k,i,rfl,q1,q2,rfl⟩:=lo1.2 y XX;simp only[Sem.run_bind,Sem.run_pure,Result.andThen_ok,Au _ ⟨q1,q2⟩]
  |some z=>
   obtain⟨k',i',rfl,p1,p2,rfl⟩:=aNv.2 z aSR;have hb:∀code,(Instr.sliceBound (.int k' i') cap' code).run P w= .ok i'.toNat w:=λcode=>Au code ⟨p1,ak⟩
   cases XX:lo.map a.eval with
   |none=>
    obtain rfl:=lo0 XX;simp only[Sem.run_bind,Sem.run_pure,Result.andThen_ok,hb]
   |some y=>
    obtain⟨k,i,rfl,q1,q2,rfl⟩:=lo1.2 y XX;simp only[Sem.run_bind,Sem.run_pure,Result.andThen_ok,hb,Au _ ⟨q1,q2⟩]
 ·cases aSR:hi.map a.eval with
  |none=>cases hi <;> simp_all
  |some z=>
   obtain⟨k',i',rfl,p1,p2,rfl⟩:=aNv.2 z aSR;have aVD:((i'.toNat:Nat):Int)<=mv:=aVD;have h0:∀code,(Instr.sliceBound (.int k2 mv) cap code).run P w= .ok mv.toNat w:=λcode=>Au code ⟨ak,ak⟩
   have hb:∀code,(Instr.sliceBound (.int k' i') mv.toNat code).run P w= .ok i'.toNat w:=λcode=>Au code ⟨p1,ak⟩
   cases XX:lo.map a.eval with
   |none=>
    obtain rfl:=lo0 XX;simp only[Sem.run_bind,Sem.run_pure,Result.andThen_ok,hb,h0]
   |some y=>
    obtain⟨k,i,rfl,q1,q2,rfl⟩:=lo1.2 y XX;simp only[Sem.run_bind,Sem.run_pure,Result.andThen_ok,hb,h0,Au _ ⟨q1,q2⟩]
theorem pk{T:TypeId}{z:Nat}(h1:lD P T=some z)(h2:yw P T=none):∃e,P.underlying T=some (.slice e)/\P.cellsOf e=z/\0 < z:=by
 unfold lD at h1;unfold yw at h2;split at h1
 ·rename_i n e hT;rw[hT]at h2;cases h2
 ·rename_i e hT;cases hc:P.cellsOf e with
  |zero=>rw[hc]at h1;cases h1
  |succ k=>
   rw[hc]at h1;simp only[az]at h1;exact⟨e,hT,ak,ak⟩
 ·cases h1
theorem zi{T:TypeId}{z n:Nat}(h1:lD P T=some z)(h2:yw P T=some n):∃e,P.underlying T=some (.array n e)/\P.cellsOf e=z/\0 < z:=by
 unfold lD at h1;unfold yw at h2;split at h1
 ·rename_i n e hT;rw[hT]at h2;simp only[az]at h2;subst h2;cases hc:P.cellsOf e with
  |zero=>rw[hc]at h1;cases h1
  |succ k=>
   rw[hc]at h1;simp only[az]at h1;exact⟨e,hT,ak,ak⟩
 ·rename_i e hT;rw[hT]at h2;cases h2
 ·cases h1
theorem pR{e:TypeId}{z:Nat}(h:P.cellsOf e=z)(hz:0 < z)(w:World):(sizeOf e).run P w= .ok z w:=by
 unfold Program.cellsOf at h;cases hi:P.info? e with
 |none=>rw[hi]at h;simp at h;omega
 |some i=>rw[hi]at h;rw[run_sizeOf hi];simpa using h
set_option maxHeartbeats 1000000 in
theorem acF(h:Inv C g β s a w){T:TypeId}{x:Operand}{lo hi mx:Option Operand}(ho:o.op= .slice T x lo hi mx)
  (hm:mx=none\/∃m y hv mv,mx=some m/\hi=some y/\(asInt (s.ev y)).eval=some hv/\(asInt (s.ev m)).eval=some mv/\0<=hv/\hv<=mv/\mv<=aLH (s.ev x))
  {v:aB} (he:(JG P s T (s.ev x) lo hi).eval=some v):fL P o a w (iB C (s.put o.dst (amL mx v))):=by
 have hx:=h.ev x;have fin:∀z,(Instr.sliceAt T (a.eval x) (lo.map a.eval) (hi.map a.eval) (mx.map a.eval)).run P w= .ok z w->VS (s.env w g β) (amL mx v) z->fL P o a w (iB C (s.put o.dst (amL mx v))):=by intro z h1 h2;exact h.value h2 (dW (f:=Instr.sliceAt T (a.eval x) (lo.map a.eval) (hi.map a.eval) (mx.map a.eval)) (by simp only[execOp,ho]) h1)
 have no:∀ {q:Prop},aLH (s.ev x)= -1->(mx=none->q)->q:=by
  intro q h1 h2;rcases hm with h3 | ⟨_,_,hv,mv,_,_,_,_,h3,h4,h5⟩
  ·exact h2 h3
  ·omega
 have sl:∀(e:TypeId) (z:Nat) (ad:Option Addr) (len cap:Nat) (b:Nat×Nat),aLH (s.ev x)=(len:Int)->P.underlying T=some (.slice e)->P.cellsOf e=z->0 < z->a.eval x= .slice ad len cap->len<=cap->(bounds s len lo hi).eval=some b->
   ∃cap',(Instr.sliceAt T (a.eval x) (lo.map a.eval) (hi.map a.eval) (mx.map a.eval)).run P w= .ok (.slice (if cap'=b.1 then ad else ad.map (·.add (b.1*z))) (b.2 - b.1) (cap' - b.1)) w/\b.1<=b.2/\b.2<=len/\b.2<=cap'/\cap'<=cap/\(mx=none->cap'=cap):=by
  intro e z ad len cap b hL hT hz uI hy aCg hb;rcases hm with rfl | ⟨m,y,hv,mv,rfl,rfl,q1,q2,q3,q4,q5⟩
  ·obtain⟨h1,h2,h3⟩:=yO (P:=P) h aCg hb true (.inl ⟨rfl,rfl⟩);refine⟨cap,?_,h2,h3,ak,ax _,λ_=>rfl⟩;rw[hy];simp[Instr.sliceAt,Instr.slice,run_underlying hT,h1,pR hz uI]
  ·obtain⟨k,hk⟩:=AD (h.ev m) q2;have XV:(b.2:Int)<=mv:=by obtain⟨hh,h1,h2⟩:=aw.1 hb;obtain⟨i,r1,r2⟩:=aw.1 h1;obtain⟨r3,r4⟩:=bS.1 r2;obtain rfl:=ay.1 r4;obtain⟨ll,_,h4⟩:=aw.1 h2;obtain rfl:=ay.1 h4;rw[q1]at r1;obtain rfl:=bf r1;show((hv.toNat:Nat):Int)<=mv;omega
   obtain⟨h1,h2,h3⟩:=yO (P:=P) h aCg hb true (mx:=some (.int k mv)) (cap':=mv.toNat) (.inr ⟨k,mv,rfl,rfl,XV,ak,rfl⟩);refine⟨mv.toNat,?_,h2,h3,ak,ak,λh=>by cases h⟩;rw[hy,dV (a:=m),hk];simp[Instr.sliceAt,Instr.slice,run_underlying hT,pR hz uI];simp only[dV]at h1;simp[h1]
 have ar:∀(e:TypeId) (z n:Nat) (ad:Addr) (b:Nat×Nat),mx=none->P.underlying T=some (.array n e)->P.cellsOf e=z->0 < z->a.eval x= .pointer (some ad)->(bounds s n lo hi).eval=some b->
   (Instr.sliceAt T (a.eval x) (lo.map a.eval) (hi.map a.eval) (mx.map a.eval)).run P w= .ok (.slice (some (if n=b.1 then ad else ad.add (b.1*z))) (b.2 - b.1) (n - b.1)) w/\b.1<=b.2/\b.2<=n:=by
  intro e z n ad b hN hT hz uI hy hb;obtain⟨h1,h2,h3⟩:=yO (P:=P) h (ax n) hb false (.inl ⟨rfl,rfl⟩);refine⟨?_,h2,h3⟩;rw[hy,hN];simp[Instr.sliceAt,Instr.sureAddr,run_underlying hT,h1,pR hz uI]
 have cutR:∀(t:Ty) (z:Nat) (ad ad':Option Addr) (len' cap':Nat) (vs:List Value) (l:List t.den) (b:Nat×Nat),z=t.size->GW (s.env w g β) ad vs->bD (df (s.env w g β) t) vs l->b.1<=b.2->b.2<=l.length->
   (∀bb off,ad=some ⟨bb,off,none⟩->b.1 < b.2->ad'=some ⟨bb,off+b.1*z,none⟩)->(b.1 < b.2->ad'.isSome=true)->len'=b.2 - b.1->len'<=cap'->VS (s.env w g β) (.d (.slice t) (cut l b.1 (b.2 - b.1))) (.slice ad' len' cap'):=by
  intro t z ad ad' len' cap' vs l b hz hr hc h1 h2 aTz qX hlen hle;subst hz hlen;have aCf:(cut l b.1 (b.2 - b.1)).length=b.2 - b.1:=Fx ak;refine⟨_,?_,rfl⟩;simp only[V,df];refine⟨ad',cap',(vs.drop (b.1*t.size)).take ((b.2 - b.1)*t.size),by rw[aCf],ak,by rw[aCf];intro hp;exact qX ak,?_,Nq hc b.1 _⟩;intro i v hi;rw[di]at hi;split at hi
  ·rename_i aWC;rw[fV]at hi;obtain⟨bb,off,e,hh⟩:=hr _ v hi;have gQ:b.1 < b.2:=by
    rcases qk b.1 b.2 with h' | h'
    ·exact h'
    ·rw[kO h',nu]at aWC;omega
   exact⟨bb,_,aTz bb off e gQ,by rw[eP];exact hh⟩
  ·cases hi
 unfold JG at he;split at he
 ·rename_i st mG;rw[mG]at hx;have e1:=JL hx;obtain⟨h1,h2⟩:=aC.1 he;obtain⟨b,h3,h4⟩:=aw.1 h2;obtain rfl:=ay.1 h4;split at h1 <;> try (cases h1;done)
  rename_i hT;obtain⟨q1,q2,q3⟩:=yO (P:=P) h (ax _) h3 false (.inl ⟨rfl,rfl⟩);refine no (by rw[mG];rfl) λhN=> ?_
  subst hN;refine fin (.string (st.extract b.1 b.2)) ?_ (ahD _)
  rw[e1];simp[Instr.sliceAt,Instr.slice,run_underlying hT,q1]
 ·rename_i t l hl;rw[hl]at hx;obtain⟨ad,cap,vs,hy,aCg,qX,s9,wB⟩:=u6 hx;obtain⟨h1,h2⟩:=aC.1 he;obtain⟨b,h3,h4⟩:=aw.1 h2;obtain rfl:=ay.1 h4;split at h1 <;> try (cases h1;done)
  rename_i z VH Tx;obtain⟨e,hT,hz,uI⟩:=pk VH Tx;have ayZ:z=t.size:=by simpa using h1
  obtain⟨cap',q1,q2,q3,q4,_,_⟩:=sl e z ad _ cap b (by rw[hl];rfl) hT hz uI hy aCg h3;refine fin _ q1 ?_
  rw[show amL mx (.d (.slice t) (cut l b.1 (b.2 - b.1)))= .d (.slice t) (cut l b.1 (b.2 - b.1)) by cases mx <;> rfl];refine cutR t z ad _ _ _ vs l b ayZ s9 wB q2 q3 ?_ ?_ rfl ak
  ·intro bb off e1 gQ;rw[if_neg ak,e1];simp[Addr.add_lit]
  ·intro gQ;rw[if_neg ak];have:=qX ak;cases ad <;> simp_all
 ·rename_i hl;rw[hl]at hx;have hy:=lN hx;obtain⟨h1,h2⟩:=aC.1 he;obtain⟨b,h3,h4⟩:=aw.1 h2;obtain rfl:=ay.1 h4;split at h1 <;> try (cases h1;done)
  rename_i z VH Tx;obtain⟨e,hT,hz,uI⟩:=pk VH Tx;obtain⟨cap',q1,q2,q3,q4,q6,q5⟩:=sl e z none 0 0 b (by rw[hl];rfl) hT hz uI hy (ax _) h3;have SD:b.1=0:=ak;have XV:b.2=0:=ak;have XW:cap'=0:=ak;refine fin _ q1 ?_
  rw[show amL mx .de= .de by cases mx <;> rfl,SD,XV,XW];exact⟨_,by simp[V],rfl⟩
 ·rename_i id ver p c i len hl;rw[hl]at hx;obtain⟨ad,cap,hy,aCg,qX,Z1,fB⟩:=sM hx;obtain⟨r,aFh,he⟩:=aw.1 he;obtain⟨h1,h2⟩:=aC.1 he;obtain⟨b,h3,h4⟩:=aw.1 h2;obtain rfl:=ay.1 h4;split at h1 <;> try (cases h1;done)
  rename_i z VH Tx;obtain⟨e,hT,hz,uI⟩:=pk VH Tx;have ayZ:z=r.2.1.size:=by simpa using h1
  obtain⟨cap',q1,q2,q3,q4,q6,q5⟩:=sl e z ad _ cap b (by rw[hl];rfl) hT hz uI hy aCg h3;obtain⟨p',aJA,XY⟩:∃p',amL mx (.bA id ver p (c+b.1*r.2.1.size) (i+b.1) (b.2 - b.1))= .bA id ver p' (c+b.1*r.2.1.size) (i+b.1) (b.2 - b.1)/\(p'=[]->p=[]/\mx=none):=by
   cases mx with
   |none=>exact⟨p,rfl,λh=>⟨h,rfl⟩⟩
   |some m=>exact⟨p++ [.arr],rfl,λh=>by simp at h⟩
  refine fin _ q1 ?_
  rw[aJA];refine⟨_,?_,rfl⟩;simp only[V];refine⟨_,_,rfl,ak,?_,Z1,λhc=> ?_⟩
  ·intro gQ;rw[if_neg ak];have:=qX ak;cases ad <;> simp_all
  ·have fB:=fB hc;cases hp:β id with
   |none=>
    have hp':(s.env w g β).β id=none:=hp;rw[hp']at fB ⊢;simp only at fB ⊢;obtain⟨rfl,rfl,rfl⟩:=fB;have XW:cap'=0:=ak;refine⟨by simp,ak,ak⟩
   |some pl=>
    have hp':(s.env w g β).β id=some pl:=hp;rw[hp']at fB ⊢;simp only at fB ⊢;refine⟨λhh=> ?_,λaT7 aK7=> ?_⟩
    ·by_cases aOU:cap'=b.1
     ·rw[if_pos aOU];have aSK:b.1=0:=ak;rw[aSK,nu,cq];exact fB.1 (.inr ak)
     ·rw[if_neg aOU,fB.1 ak,<-ayZ];simp[Addr.add_lit]
    ·obtain⟨e1,e2⟩:=XY aT7;have:=fB.2 e1 ak;have:=q5 e2;omega
 ·rename_i id ver p n hl;rw[hl]at hx;obtain⟨ad,hy,Z1,fB⟩:=vU hx;obtain⟨r,aFh,he⟩:=aw.1 he;obtain⟨h1,h2⟩:=aC.1 he;obtain⟨h5,h6⟩:=bS.1 h2;obtain⟨b,h3,h4⟩:=aw.1 h6;obtain rfl:=ay.1 h4;split at h1 <;> try (cases h1;done)
  rename_i z m VH Tx;obtain⟨e,hT,hz,uI⟩:=zi VH Tx;have ayZ:z=r.2.1.size:=by simpa using h1
  rw[Tx,dN]at h3;refine no (by rw[hl];rfl) λhN=> ?_
  obtain⟨q1,q2,q3⟩:=ar e z m ad b hN hT hz uI hy h3;subst hN;obtain⟨fr,c0,cQ,_⟩:=Ue rfl h.bJ aFh;obtain⟨pl,hp,ayN⟩:=fB ⟨fr,c0,cQ⟩;refine fin _ q1 ⟨_,?_,rfl⟩;simp only[amL,V];refine⟨_,_,rfl,ak,λ_=>rfl,Z1,λ_=> ?_⟩;rw[hp];simp only;refine⟨λhh=> ?_,λaT7=>by simp at aT7⟩;rw[ayN];by_cases aOU:m=b.1
  ·have aSK:b.1=0:=ak;rw[if_pos aOU,aSK,nu,cq]
  ·rw[if_neg aOU,<-ayZ,Addr.add_lit]
 ·rename_i n t l hl;rw[hl]at hx;obtain⟨bb,off,vs,hy,s9,hR⟩:=wX hx;obtain⟨h1,h2⟩:=aC.1 he;obtain⟨b,h3,h4⟩:=aw.1 h2;obtain rfl:=ay.1 h4;split at h1 <;> try (cases h1;done)
  rename_i z m VH Tx;obtain⟨e,hT,hz,uI⟩:=zi VH Tx;simp only[au,dv]at h1;obtain⟨ayZ,rfl⟩:=h1;refine no (by rw[hl];rfl) λhN=> ?_
  obtain⟨q1,q2,q3⟩:=ar e z m _ b hN hT hz uI hy h3;subst hN;simp only[df]at hR;obtain⟨hlen,wB⟩:=hR;refine fin _ q1 (cutR t z (some ⟨bb,off,none⟩) _ _ _ vs l b ayZ s9 wB q2 ak ?_ (λ_=>rfl) rfl ak);intro bb' off' e1 gQ;simp only[az,Addr.mk.injEq,iQ]at e1;obtain⟨rfl,rfl⟩:=e1;rw[if_neg ak,Addr.add_lit]
 ·simp only[av]at he
end
end Go.Ab
namespace Go.Ab
section
variable {P:Program} {C:Ctx} {g:Nat->mz} {β:Id->Option Pl} {s:AS} {a:Act} {w:World} {o:Oper}
theorem aaa(h:Inv C g β s a w){T:TypeId}{x y:Operand}(ho:o.op= .indexAddr T x y){i:Int}(hi:(asInt (s.ev y)).eval=some i){v:aB}(he:(tc P s T (s.ev x) i).eval=some v):fL P o a w (iB C (s.put o.dst v)):=by
 have hx:=h.ev x;obtain⟨k,hy⟩:=AD (h.ev y) hi;have fin:∀z,(Instr.indexAt T (a.eval x) (a.eval y)).run P w= .ok z w->VS (s.env w g β) v z->fL P o a w (iB C (s.put o.dst v)):=by intro z h1 h2;exact h.value h2 (dW (f:=Instr.indexAt T (a.eval x) (a.eval y)) (by simp only[execOp,ho]) h1)
 have sl:∀(e:TypeId) (z:Nat) (ad:Addr) (len cap:Nat),P.underlying T=some (.slice e)->P.cellsOf e=z->0 < z->a.eval x= .slice (some ad) len cap->0<=i/\i < (len:Int)->
   (Instr.indexAt T (a.eval x) (a.eval y)).run P w= .ok (.pointer (some (ad.add (i.toNat*z)))) w:=by
  intro e z ad len cap hT hz uI hv hb;rw[hv,hy];simp[Instr.indexAt,asIntOf,run_underlying hT,hb,pR hz uI]
 have ar:∀(e:TypeId) (z n:Nat) (ad:Addr),P.underlying T=some (.array n e)->P.cellsOf e=z->0 < z->a.eval x= .pointer (some ad)->0<=i/\i < (n:Int)->
   (Instr.indexAt T (a.eval x) (a.eval y)).run P w= .ok (.pointer (some (ad.add (i.toNat*z)))) w:=by
  intro e z n ad hT hz uI hv hb;rw[hv,hy];simp[Instr.indexAt,Instr.sureAddr,asIntOf,run_underlying hT,hb,pR hz uI]
 have elt:∀(t:Ty) (z:Nat) (bb off:Nat) (vs:List Value) (l:List t.den),z=t.size->GW (s.env w g β) (some ⟨bb,off,none⟩) vs->bD (df (s.env w g β) t) vs l->0<=i/\i < (l.length:Int)->
   VS (s.env w g β) (.dO t (nth t l i.toNat)) (.pointer (some ⟨bb,off+i.toNat*z,none⟩)):=by
  intro t z bb off vs l hz hr hc hb;subst hz;have gQ:i.toNat < l.length:=ak;rw[abf gQ];obtain⟨hp,_⟩:=RB hc gQ;refine⟨_,?_,rfl⟩;simp only[V];refine⟨_,_,_,rfl,λj v hj=> ?_,hp⟩;rw[di]at hj;split at hj
  ·rw[fV]at hj;obtain⟨b',o',e,hh⟩:=hr _ v hj;simp only[az,Addr.mk.injEq,iQ]at e;obtain⟨rfl,rfl⟩:=e;exact⟨_,_,rfl,by rw[eP];exact hh⟩
  ·cases hj
 unfold tc at he;split at he
 ·rename_i t l hl;rw[hl]at hx;obtain⟨ad,cap,vs,hv,aCg,qX,s9,wB⟩:=u6 hx;obtain⟨h1,h2⟩:=aC.1 he;obtain⟨h3,h4⟩:=bS.1 h2;obtain rfl:=ay.1 h4;simp only[aW]at h3;split at h1 <;> try (cases h1;done)
  rename_i z VH Tx;obtain⟨e,hT,hz,uI⟩:=pk VH Tx;have ayZ:z=t.size:=by simpa using h1
  have hlen:=bD.length (λc x hx=>df.size hx) wB;have gQ:i.toNat < l.length:=ak;have h0:0 < vs.length:=by rw[hlen];exact Nat.mul_pos ak ak
  obtain⟨bb,off,e1,_⟩:=s9 0 vs[0] (by simp[h0]);subst e1;have:=sl e z _ _ cap hT hz uI hv h3;rw[Addr.add_lit]at this;exact fin _ this (elt t z bb off vs l ayZ s9 wB h3)
 ·rename_i n t l hl;rw[hl]at hx;obtain⟨bb,off,vs,hv,s9,hR⟩:=wX hx;obtain⟨h1,h2⟩:=aC.1 he;obtain⟨h3,h4⟩:=bS.1 h2;obtain rfl:=ay.1 h4;simp only[aW]at h3;split at h1 <;> try (cases h1;done)
  rename_i z m VH Tx;obtain⟨e,hT,hz,uI⟩:=zi VH Tx;simp only[au,dv]at h1;obtain⟨ayZ,rfl⟩:=h1;simp only[df]at hR;have:=ar e z m _ hT hz uI hv h3;rw[Addr.add_lit]at this;exact fin _ this (elt t z bb off vs l ayZ s9 hR.2 (by rw[hR.1];exact h3))
 ·rename_i id ver p c j len hl;rw[hl]at hx;obtain⟨ad,cap,hv,aCg,qX,Z1,fB⟩:=sM hx;obtain⟨r,aFh,he⟩:=aw.1 he;obtain⟨h1,h2⟩:=aC.1 he;obtain⟨h3,h4⟩:=bS.1 h2;obtain rfl:=ay.1 h4;simp only[aW]at h3;split at h1 <;> try (cases h1;done)
  rename_i z VH Tx;obtain⟨e,hT,hz,uI⟩:=pk VH Tx;have ayZ:z=r.2.1.size:=by simpa using h1
  have hs:=qX ak;obtain⟨ad',rfl⟩:=bO.1 hs;refine fin _ (sl e z ad' len cap hT hz uI hv h3) ⟨_,?_,rfl⟩;simp only[V];refine⟨_,rfl,Z1,λhc=> ?_⟩;have fB:=fB hc;cases hp:β id with
  |none=>
   have hp':(s.env w g β).β id=none:=hp;rw[hp']at fB;exact absurd fB.1 (by simp)
  |some pl=>
   have hp':(s.env w g β).β id=some pl:=hp;rw[hp']at fB;have e1:=fB.1 (.inl ak);simp only[az]at e1;exact⟨pl,hp,by rw[e1,Addr.add_lit,ayZ]⟩
 ·rename_i id ver p n hl;rw[hl]at hx;obtain⟨ad,hv,Z1,fB⟩:=vU hx;obtain⟨h1,h2⟩:=aC.1 he;obtain⟨h3,h4⟩:=bS.1 h2;obtain rfl:=ay.1 h4;simp only[aW]at h3;split at h1 <;> try (cases h1;done)
  rename_i z m VH Tx;obtain⟨e,hT,hz,uI⟩:=zi VH Tx;rw[Tx,dN]at h3;refine fin _ (ar e z m ad hT hz uI hv h3) ⟨_,?_,rfl⟩;simp only[V];refine⟨_,rfl,Z1,λhc=> ?_⟩;obtain⟨pl,hp,ayN⟩:=fB hc;exact⟨pl,hp,by rw[ayN,Addr.add_lit,VH,dN]⟩
 ·simp only[av]at he
theorem G8{T:TypeId}{f off:Nat}{ft:TypeId}(h:fieldInfo P T f=some (off,ft)):∃fs fd,P.underlying T=some (.struct fs)/\fs[f]? =some fd/\fd.offset=off/\fd.type=ft:=by
 unfold fieldInfo at h;split at h
 ·rename_i fs hT;split at h
  ·rename_i fd hf;simp only[az,cE]at h;exact⟨fs,fd,hT,hf,h.1,h.2⟩
  ·cases h
 ·cases h
theorem Gg{E:Env}:∀(x:aB) (f off:Nat) (v:aB) (cs:List Value),V E x cs->partOf x f=some (off,v)->V E v ((cs.drop off).take v.size)/\off+v.size<=cs.length:=by
 intro x f
 induction f generalizing x with
 |zero=>
  intro off v cs hx h;cases x with
  |d t y=>
   cases t <;> simp only[partOf,reduceCtorEq]at h;rename_i ta tb;simp only[az,cE]at h;obtain⟨rfl,rfl⟩:=h;simp only[V,df]at hx ⊢;obtain⟨ca,cb,rfl,ha,hb⟩:=hx;have:=ha.size;simp only[aB.size,aD,ai,aO];rw[kX this];exact⟨ha,ak⟩
  |pr b c=>
   simp only[partOf,az,cE]at h;obtain⟨rfl,rfl⟩:=h;simp only[V]at hx;obtain⟨ca,cb,rfl,ha,hb⟩:=hx;have:=ha.size;simp only[aD,ai,aO];rw[kX this];exact⟨ha,ak⟩
  |_=>simp only[partOf,reduceCtorEq]at h
 |succ f ih=>
  intro off v cs hx h;have second:∀(ca cb:List Value) (n:Nat) (b:aB),cs=ca++cb->ca.length=n->V E b cb->(match partOf b f with | some (o,v)=>some (n+o,v) | none=>none)=some (off,v)->V E v ((cs.drop off).take v.size)/\off+v.size<=cs.length:=by
   intro ca cb n b e hl hb hh;cases hp:partOf b f with
   |none=>rw[hp]at hh;cases hh
   |some r=>
    obtain⟨o',v'⟩:=r;rw[hp]at hh;simp only[az,cE]at hh;obtain⟨rfl,rfl⟩:=hh;obtain⟨h1,h2⟩:=ih b o' v' cb hb hp;subst e;rw[<-hl,ka,dZ ak,aT,Nat.add_sub_cancel_left];exact⟨h1,by simp only[ai];omega⟩
  cases x with
  |d t y=>
   cases t with
   |pair ta tb=>
    simp only[partOf]at h;simp only[V,df]at hx;obtain⟨ca,cb,e,ha,hb⟩:=hx;exact second ca cb ta.size (.d tb y.2) e ha.size (by simpa only[V]using hb) h
   |_=>simp only[partOf,reduceCtorEq]at h
  |pr b c=>
   simp only[partOf]at h;simp only[V]at hx;obtain⟨ca,cb,e,ha,hb⟩:=hx;exact second ca cb b.size c e ha.size hb h
  |_=>simp only[partOf,reduceCtorEq]at h
theorem ZQ(h:Inv C g β s a w){T:TypeId}{x:Operand}{f:Nat}(ho:o.op= .fieldAddr T x f){v:aB}(he:(FJ P T (s.ev x) f).eval=some v):fL P o a w (iB C (s.put o.dst v)):=by
 have hx:=h.ev x;unfold FJ at he;split at he
 ·rename_i off ft hf;obtain⟨fs,fd,hT,aSO,rfl,rfl⟩:=G8 hf;obtain⟨h1,h2⟩:=aC.1 he;have hz:P.cellsOf fd.type≠0:=by simpa using h1
  have run:∀bb n,a.eval x= .pointer (some ⟨bb,n,none⟩)->(Instr.fieldAt T (a.eval x) f).run P w= .ok (.pointer (some ⟨bb,n+fd.offset,none⟩)) w:=by intro bb n hy;rw[hy];simp[Instr.fieldAt,run_underlying hT,aSO,Instr.sureAddr,fieldPlace,pR (P:=P) (e:=fd.type) rfl ak,hz,Addr.add_lit]
  have runS:∀ad,a.eval x= .pointer (some ad)->(Instr.fieldAt T (a.eval x) f).run P w= .ok (.pointer (some (ad.add fd.offset))) w:=by intro ad hy;rw[hy];simp[Instr.fieldAt,run_underlying hT,aSO,Instr.sureAddr,fieldPlace,pR (P:=P) (e:=fd.type) rfl ak,hz]
  have fin:∀z,(Instr.fieldAt T (a.eval x) f).run P w= .ok z w->VS (s.env w g β) v z->fL P o a w (iB C (s.put o.dst v)):=by intro z h1 h2;exact h.value h2 (dW (f:=Instr.fieldAt T (a.eval x) f) (by simp only[execOp,ho]) h1)
  split at h2
  ·rename_i id ver p n hl;rw[hl]at hx;obtain rfl:=ay.1 h2;obtain⟨ad,hy,Z1,fB⟩:=vU hx;refine fin _ (runS ad hy) ⟨_,?_,rfl⟩;simp only[V];refine⟨_,rfl,Z1,λhc=> ?_⟩;obtain⟨pl,hp,ayN⟩:=fB hc;exact⟨pl,hp,by rw[ayN,Addr.add_lit]⟩
  ·rename_i t y hl;rw[hl]at hx;obtain⟨bb,off,vs,hy,s9,hR⟩:=wX hx;split at h2
   ·rename_i o' t' y' hp;obtain⟨h3,h4⟩:=aC.1 h2;obtain rfl:=ay.1 h4;have h3:fd.offset=o':=by simpa using h3
    obtain⟨hV,hle⟩:=Gg (.d t y) f o' (.d t' y') vs (by simpa only[V]using hR) hp;refine fin _ (run bb off hy) ⟨_,?_,rfl⟩;simp only[V]at hV ⊢;refine⟨_,_,_,rfl,λj u hj=> ?_,hV⟩;rw[di]at hj;split at hj
    ·rw[fV]at hj;obtain⟨b',o'',e,hh⟩:=s9 _ u hj;simp only[az,Addr.mk.injEq,iQ]at e;obtain⟨rfl,rfl⟩:=e;exact⟨_,_,rfl,by rw[h3,eP];exact hh⟩
    ·cases hj
   ·simp only[av]at h2
  ·rename_i t q hl;obtain⟨y,e,h5⟩:=xu.1 h2;subst e;rw[hl]at hx;have hx:=Qt hx;obtain⟨bb,off,vs,hy,s9,hR⟩:=wX hx;split at h5
   ·rename_i o' t' y' hp;obtain⟨h3,h4⟩:=aC.1 h5;obtain rfl:=ay.1 h4;have h3:fd.offset=o':=by simpa using h3
    obtain⟨hV,hle⟩:=Gg (.d t y) f o' (.d t' y') vs (by simpa only[V]using hR) hp;refine fin _ (run bb off hy) ⟨_,?_,rfl⟩;simp only[V]at hV ⊢;refine⟨_,_,_,rfl,λj u hj=> ?_,hV⟩;rw[di]at hj;split at hj
    ·rw[fV]at hj;obtain⟨b',o'',e,hh⟩:=s9 _ u hj;simp only[az,Addr.mk.injEq,iQ]at e;obtain⟨rfl,rfl⟩:=e;exact⟨_,_,rfl,by rw[h3,eP];exact hh⟩
    ·cases hj
   ·simp only[av]at h5
  ·simp only[av]at h2
 ·simp only[av]at he
theorem adN{x:aB}{f:Nat}{r:Nat×aB}(h:partOf x f=some r):x.agg=true/\x.eQ=true:=by
 cases x with
 |d t y=>cases t <;> cases f <;> simp[partOf]at h <;> exact⟨rfl,rfl⟩
 |pr b c=>exact⟨rfl,rfl⟩
 |_=>cases f <;> simp[partOf]at h
theorem Im{T:TypeId}{v:aB}(h:fits P T v=true):N4 P T v.agg=true/\P.cellsOf T=v.size/\v.eQ=true:=by unfold fits at h;simp only[au,dv]at h;exact⟨h.2,h.1.2,h.1.1⟩
theorem arR(h:Inv C g β s a w){T:TypeId}{x:Operand}{f:Nat}(ho:o.op= .field T x f){v:aB}(he:(aiP P T (s.ev x) f).eval=some v):fL P o a w (iB C (s.put o.dst v)):=by
 have hx:=h.ev x;unfold aiP at he;split at he
 ·rename_i off ft o' v' hf hp;obtain⟨fs,fd,hT,aSO,rfl,rfl⟩:=G8 hf;obtain⟨h1,h2⟩:=aC.1 he;obtain rfl:=ay.1 h2;simp only[au,dv]at h1;obtain⟨rfl,Z3⟩:=h1;obtain⟨Pc,ar2⟩:=adN hp;obtain⟨cs,hV,hO⟩:=hx.eQ ar2;rw[Pc]at hO;have hy:a.eval x= .agg cs.toArray:=hO;obtain⟨hVp,hle⟩:=Gg _ _ _ _ cs hV hp;obtain⟨q1,q2,q3⟩:=Im Z3;obtain⟨y,hr,hOy⟩:=xI (w:=w) q1 q2 (λhh=>aB.apA hh) hle;refine h.value (VS.of hVp hOy) (dW (f:=Instr.field T (a.eval x) f) (by simp only[execOp,ho]) ?_);rw[hy];simp[Instr.field,run_underlying hT,aSO,asAgg,hr]
 ·simp only[av]at he
theorem asg(h:Inv C g β s a w){T:TypeId}{x y:Operand}(ho:o.op= .index T x y){i:Int}(hi:(asInt (s.ev y)).eval=some i){v:aB}(he:(aja P T (s.ev x) i).eval=some v):fL P o a w (iB C (s.put o.dst v)):=by
 have hx:=h.ev x;obtain⟨k,hy⟩:=AD (h.ev y) hi;have fin:∀z,(Instr.index T (a.eval x) (a.eval y)).run P w= .ok z w->VS (s.env w g β) v z->fL P o a w (iB C (s.put o.dst v)):=by intro z h1 h2;exact h.value h2 (dW (f:=Instr.index T (a.eval x) (a.eval y)) (by simp only[execOp,ho]) h1)
 unfold aja at he;split at he
 ·rename_i n t l m e hl hT;rw[hl]at hx;obtain⟨h1,h2⟩:=aC.1 he;obtain⟨h3,h4⟩:=bS.1 h2;obtain rfl:=ay.1 h4;simp only[au,dv,aW]at h1 h3;obtain⟨rfl,Z3⟩:=h1;obtain⟨q1,q2,q3⟩:=Im Z3;obtain⟨cs,hV,hO⟩:=hx.eQ rfl;have aW6:a.eval x= .agg cs.toArray:=hO;simp only[V,df]at hV;obtain⟨hlen,wB⟩:=hV;have gQ:i.toNat < l.length:=ak;obtain⟨hp,hle⟩:=RB wB gQ;have q2':P.cellsOf e=t.size:=q2;have q1':N4 P e t.agg=true:=q1;obtain⟨y',hr,hOy⟩:=xI (w:=w) q1' q2' xK hle;obtain⟨j,hj,_⟩:=zy q1';rw[<-abf gQ]at hp;refine fin y' ?_ (VS.of (by simpa only[V]using hp) hOy)
  rw[aW6,hy];have tW:=run_sizeOf hj w;rw[<-nD hj,q2']at tW;simp[Instr.index,asIntOf,run_underlying hT,h3,tW,hr]
 ·rename_i st hl hT;rw[hl]at hx;obtain⟨h3,h4⟩:=bS.1 he;obtain rfl:=ay.1 h4;simp only[aW]at h3;have e1:=JL hx;have gQ:i.toNat < st.data.toList.length:=by
   have:st.size=st.data.toList.length:=by rw[cK];rfl
   omega
  have aTK:st[i.toNat]? =some (st.data.toList[i.toNat]):=by have hlt':i.toNat < st.size:=ak;rw[getElem?_pos st i.toNat hlt'];rfl
  refine fin (.int .u8 ((st.data.toList.getD i.toNat 0).toNat:Int)) ?_ (l5 _ _)
  rw[e1,hy];simp[Instr.index,asIntOf,run_underlying hT,h3.1,aTK,aH,bU gQ]
 ·simp only[av]at he
theorem aN5{E:Env}:∀(c:aB) (vs:List Value) (i:Nat) (v:aB),VC E c vs->c.list[i]? =some v->∃y,vs[i]? =some y/\VS E v y:=by
 intro c
 induction c with
 |cons x y _ ih=>
  intro vs i v hc hi;simp only[VC]at hc;obtain⟨u,vs',cs,rfl,hV,hO,hc⟩:=hc;cases i with
  |zero=>
   simp only[aB.list,fQ,az]at hi;subst hi;exact⟨u,rfl,VS.of hV hO⟩
  |succ i=>
   simp only[aB.list,mA]at hi ⊢;exact ih vs' i v hc hi
 |_=>intro vs i v hc hi;simp[aB.list]at hi
theorem aiH(h:Inv C g β s a w){x:Operand}{i:Nat}(ho:o.op= .extract x i){v:aB}(he:(Out.opt ((s.ev x).list[i]?)).eval=some v):fL P o a w (iB C (s.put o.dst v)):=by
 have hx:=h.ev x;have he:=ku.1 he;cases hc:s.ev x with
 |cons p q=>
  rw[hc]at hx he;obtain⟨vs,hy,hVC⟩:=hx;obtain⟨y,hv,hVS⟩:=aN5 _ vs i v hVC he;refine h.value hVS (dW (f:=Instr.extract (a.eval x) i) (by simp only[execOp,ho]) ?_);rw[hy];simp[Instr.extract,hv]
 |_=>rw[hc]at he;simp[aB.list]at he
theorem au2(h:Inv C g β s a w):∀(l:List Operand),AI (sT s l)=true->VC (s.env w g β) (sT s l) (l.map a.eval)
 |[],_=>by simp[sT,VC]
 |x::xs,hc=>by simp only[sT,AI,au]at hc;obtain⟨cs,hV,hO⟩:=(h.ev x).eQ hc.1;simp only[sT,VC,bQ];exact⟨_,_,cs,rfl,hV,hO,au2 h xs hc.2⟩
theorem aeb(h:Inv C g β s a w){f:FuncId}{first caps:Array Operand}(ho:o.op= .makeFunc (.func f) first caps)(h1:first.isEmpty=true)(h2:AI (sT s caps.toList)=true):
  fL P o a w (iB C (s.put o.dst (.fn f (sT s caps.toList)))):=by
 have hf:first= #[]:=by simpa using h1
 refine h.value (x:= .func (.func f) #[] (caps.toList.map a.eval).toArray) ⟨_,?_,rfl⟩ (dW (f:=Instr.makeFunc (.func f) (first.map a.eval) (caps.map a.eval)) (by simp only[execOp,ho]) ?_)
 ·simp only[V];exact⟨_,rfl,au2 h _ h2⟩
 ·subst hf;have:caps.map a.eval=(caps.toList.map a.eval).toArray:=by apply gC;simp
  simp[Instr.makeFunc,this]
theorem aus(h:Inv C g β s a w){T:TypeId}{x:Operand}(ho:o.op= .sliceToArrayPointer T x){s':AS}(he:(OW P s o.dst T (s.ev x)).eval=some s'):fL P o a w (iB C s'):=by
 have hx:=h.ev x;unfold OW at he;split at he
 ·rename_i n e hT;split at he
  ·rename_i t ht;obtain⟨h1,h2⟩:=aC.1 he;obtain⟨l,h3,h4⟩:=aw.1 h2;obtain⟨h5,h6⟩:=bS.1 h4;obtain rfl:=ay.1 h6;simp only[au,cC,dv,gE,aW]at h1 h5;obtain⟨⟨hz,hn⟩,aPj⟩:=h1;obtain⟨g1,i1,e1,t1,cs,hR,hO⟩:=BH h hx h3;simp only[df]at hR;obtain⟨ad,cap,vs,rfl,aCg,qX,s9,wB⟩:=hR;have hO': [Value.slice ad (ag l) cap]=[a.eval x]:=hO;have hy:a.eval x= .slice ad (ag l) cap:=by simpa using hO'.symm
   have hlen:=bD.length (λc x hx=>df.size hx) wB;have h0:0 < vs.length:=by rw[hlen];exact Nat.mul_pos ak ak
   obtain⟨bb,off,e2,_⟩:=s9 0 vs[0] (by simp[h0]);subst e2;refine .inl ⟨.pointer (some ⟨bb,off,none⟩),w,?_,g1,β,i1.put o.dst ⟨_,?_,rfl⟩⟩
   ·refine dW (f:=Instr.arrayAt T (a.eval x)) (by simp only[execOp,ho]) ?_
    rw[hy];have:¬ag l < n:=ak;simp[Instr.arrayAt,run_underlying hT,this]
   ·simp only[V];refine⟨bb,off,vs.take (n*t.size),rfl,λj u hj=> ?_,?_⟩
    ·rw[di]at hj;split at hj
     ·exact s9 j u hj
     ·cases hj
    ·simp only[df];exact⟨by simp;omega,bD.take (λ_ _ hx=>hx.size) n wB⟩
  ·simp only[av]at he
 ·simp only[av]at he
end
end Go.Ab
namespace Go.Ab
theorem aas{α:Type}{f:α->α->Bool}(hf:∀x y,f x y=true->x=y):∀ {xs ys:List α},mu f xs ys=true->xs=ys
 |[],[],_=>rfl
 |x::xs,y::ys,h=>by simp only[mu,au]at h;rw[hf _ _ h.1,aas hf h.2]
 |[],_::_,h=>by simp[mu]at h
 |_::_,[],h=>by simp[mu]at h
theorem beq_eq:∀(t:Ty) (x y:t.den),t.comp=true->t.beq x y=true->x=y
 | .int _,x,y,_,h=>by simpa[Ty.beq]using h
 | .bool,x,y,_,h=>by simpa[Ty.beq]using h
 | .str,x,y,_,h=>by
  have h:(x:ByteArray).toList=(y:ByteArray).toList:=by simpa[Ty.beq]using h
  rw[Go.ByteArray.toList_eq,Go.ByteArray.toList_eq]at h;exact ByteArray.ext (Array.toList_inj.1 h)
 | .slice _,_,_,h,_=>by simp[Ty.comp]at h
 | .unit,_,_,_,_=>rfl
 | .pair a b,x,y,hc,h=>by simp only[Ty.comp,au]at hc;simp only[Ty.beq,au]at h;exact Prod.ext (beq_eq a _ _ hc.1 h.1) (beq_eq b _ _ hc.2 h.2)
 | .arr _ t,x,y,hc,h=>aas (λx y=>beq_eq t x y hc) h
def Plain(c:Value):Prop:=∀n,Instr.sameBits n c c=true
theorem df.plain{E:Env}:∀ {t:Ty} {cs:List Value} {x:t.den},t.comp=true->df E t cs x->∀c∈cs,Plain c
 | .int _,_,_,_,h,c,hc,n=>by simp only[df]at h;rw[h,bk]at hc;subst hc;cases n <;> simp[Instr.sameBits]
 | .bool,_,_,_,h,c,hc,n=>by simp only[df]at h;rw[h,bk]at hc;subst hc;cases n <;> simp[Instr.sameBits]
 | .str,_,_,_,h,c,hc,n=>by simp only[df]at h;rw[h,bk]at hc;subst hc;cases n <;> exact(Go.MapKept.bytes_beq _ _).2 rfl
 | .slice _,_,_,hc,_,_,_,_=>by simp[Ty.comp]at hc
 | .unit,_,_,_,h,c,hc,_=>by simp only[df]at h;rw[h]at hc;cases hc
 | .pair a b,_,_,hp,h,c,hc,n=>by
  simp only[Ty.comp,au]at hp;simp only[df]at h;obtain⟨ca,cb,rfl,ha,hb⟩:=h;rcases bz.1 hc with hc | hc
  ·exact df.plain hp.1 ha c hc n
  ·exact df.plain hp.2 hb c hc n
 | .arr _ t,_,_,hp,h,c,hc,n=>by simp only[df]at h;exact bD.all (p:=Plain) (λc x hx v hv=>df.plain (t:=t) hp hx v hv) h.2 c hc n
theorem df.aOy{E:Env}:∀ {t:Ty} {cs cs':List Value} {x:t.den},t.comp=true->df E t cs x->df E t cs' x->cs=cs'
 | .int _,_,_,_,_,h,h'=>by simp only[df]at h h';rw[h,h']
 | .bool,_,_,_,_,h,h'=>by simp only[df]at h h';rw[h,h']
 | .str,_,_,_,_,h,h'=>by simp only[df]at h h';rw[h,h']
 | .slice _,_,_,_,hc,_,_=>by simp[Ty.comp]at hc
 | .unit,_,_,_,_,h,h'=>by simp only[df]at h h';rw[h,h']
 | .pair a b,_,_,_,hp,h,h'=>by simp only[Ty.comp,au]at hp;simp only[df]at h h';obtain⟨ca,cb,rfl,ha,hb⟩:=h;obtain⟨ca',cb',rfl,ha',hb'⟩:=h';rw[df.aOy hp.1 ha ha',df.aOy hp.2 hb hb']
 | .arr _ t,cs,cs',x,hp,h,h'=>by
  simp only[df]at h h';have key:∀(l:List t.den) (cs cs':List Value),bD (df E t) cs l->bD (df E t) cs' l->cs=cs':=by
   intro l
   induction l with
   |nil=>intro cs cs' h h';have h:cs=[]:=h;have h':cs'=[]:=h';rw[h,h']
   |cons x l ih=>
    intro cs cs' h h';obtain⟨c,r,rfl,hx,hr⟩:=h;obtain⟨c',r',rfl,hx',hr'⟩:=h';rw[df.aOy (t:=t) hp hx hx',ih _ _ hr hr']
  exact key _ _ _ h.2 h'.2
theorem DT.aOy{E:Env}{t:Ty}{v v':Value}{x:t.den}(hc:t.comp=true)(h:DT E t v x)(h':DT E t v' x):v=v':=by
 obtain⟨cs,h1,h2⟩:=h;obtain⟨cs',h1',h2'⟩:=h';have e:=df.aOy hc h1 h1';subst e;unfold fT at h2 h2';cases ha:t.agg with
 |true=>rw[ha]at h2 h2';rw[h2,h2']
 |false=>
  rw[ha]at h2 h2';have h2:cs=[v]:=h2;have h2':cs=[v']:=h2';rw[h2]at h2';simpa using h2'
theorem DT.same{E:Env}{t:Ty}{v:Value}{x:t.den}(hc:t.comp=true)(h:DT E t v x):Instr.sameBits 10000 v v=true:=by
 obtain⟨cs,h1,h2⟩:=h;have hp:=df.plain hc h1;unfold fT at h2;cases ha:t.agg with
 |true=>
  rw[ha]at h2;have h2:v= .agg cs.toArray:=h2;subst h2;simp only[Instr.sameBits,beq_self_eq_true,bw,cW];intro p hp';obtain⟨a,b⟩:=p;have:∀(l:List Value),(a,b)∈l.zip l->a∈l/\a=b:=by
   intro l
   induction l with
   |nil=>intro h;simp at h
   |cons y l ih=>
    intro h;simp only[List.zip_cons_cons,bY,cE]at h;rcases h with⟨rfl,rfl⟩ | h
    ·exact⟨aI,rfl⟩
    ·exact⟨aG _ (ih h).1,(ih h).2⟩
  obtain⟨hm,rfl⟩:=this _ hp';exact hp a (by simpa using hm) _
 |false=>
  rw[ha]at h2;have h2:cs=[v]:=h2;subst h2;exact hp v (by simp) _
theorem aAX{P:Program}{w:World}{E:Env}{t:Ty}{v:Value}{x:t.den}(hc:t.comp=true)(h:DT E t v x):(Instr.keyThatStays v v).run P w= .ok v w:=by unfold Instr.keyThatStays;rw[if_pos (h.same hc)];rfl
section
variable {P:Program} {w:World} {E:Env}
theorem AZ:∀(n:Nat) (T:TypeId) (t:Ty),tx P n T t=true->t.comp=true
 | 0,T,t,h=>by simp[tx]at h
 |n+1,T,t,h=>by
  simp only[tx]at h;split at h
  ·rfl
  ·rfl
  ·rfl
  ·rename_i m e m' t' hT;simp only[au]at h;exact AZ n e t' h.2
  ·rename_i t0 _ _ fs hT;simp only[au]at h;have key:∀(fl:List Field) (t:Ty) (off:Nat),NL P (tx P n) fl t off=true->t.comp=true:=by
    intro fl
    induction fl with
    |nil=>intro t off hc;cases t <;> first | rfl | (simp[NL]at hc;done)
    |cons f fl ih=>
     intro t off hc;cases t <;> first | (simp[NL]at hc;done) | skip
     rename_i ta tb;simp only[NL,au]at hc;simp only[Ty.comp,au];exact⟨AZ n _ _ hc.1.2,ih tb _ hc.2⟩
   exact key _ _ _ h.2
  ·cases h
theorem pa(em:Bool):∀(n:Nat) (T:TypeId) (t:Ty),tx P n T t=true->∀(d:Nat),n<=d->∀(v:Value) (x:t.den),DT E t v x->(Instr.checkKey em d T v).run P w= .ok () w
 | 0,T,t,h,_,_,_,_,_=>by simp[tx]at h
 |n+1,T,t,h,0,hd,_,_,_=>ak
 |n+1,T,t,h,d+1,hd,v,x,⟨cs,hx,hv⟩=>by
  simp only[tx]at h;split at h
  ·rename_i hT;simp only[df]at hx;have e1:cs=[v]:=hv;rw[hx]at e1;simp only[dh,iQ]at e1;subst e1;simp[Instr.checkKey,run_underlying hT]
  ·rename_i hT;simp only[df]at hx;have e1:cs=[v]:=hv;rw[hx]at e1;simp only[dh,iQ]at e1;subst e1;simp[Instr.checkKey,run_underlying hT]
  ·rename_i hT;simp only[df]at hx;have e1:cs=[v]:=hv;rw[hx]at e1;simp only[dh,iQ]at e1;subst e1;simp[Instr.checkKey,run_underlying hT]
  ·rename_i m e m' t' hT;simp only[au,dv]at h;obtain⟨⟨⟨⟨rfl,aPj⟩,tW⟩,Pc⟩,wB⟩:=h;simp only[df]at hx;obtain⟨aTV,aTH⟩:=hx;have e1:v= .agg cs.toArray:=hv;subst e1;obtain⟨i,hi,anf⟩:=zy Pc;have hsz':=tW;rw[nD hi]at hsz';simp only[Instr.checkKey,Sem.run_bind,run_underlying hT,Result.andThen_ok];simp only[Std.Legacy.Range.forIn_eq_forIn_range'];have hm:([:m]:Std.Legacy.Range).size=m:=by simp[Std.Legacy.Range.size]
   rw[hm];have aqv:∀c z,df E t' c z->c.length=t'.size:=λc z hz=>hz.size
   have bx:t'.agg=false->t'.size=1:=xK
   have key:∀(k:Nat) (x:List t'.den) (j:Nat),x.length=k->bD (df E t') (cs.drop (j*t'.size)) x->
     (forIn (List.range' j k) () λi __s=>(do
      let __do_lift <-sizeOf e
      let __do_lift <-part e cs.toArray (i*__do_lift)
      Instr.checkKey em d e __do_lift
      pure (ForInStep.yield ()):Sem (ForInStep Unit))).run P w= .ok () w:=by
    intro k
    induction k with
    |zero=>intro x j _ _;rfl
    |succ k ih=>
     intro x j hx hcx';cases x with
     |nil=>simp at hx
     |cons x0 xs=>
      have gx:=bD.get aqv hcx' 0 (by simp);simp only[nu,aD,List.getElem_cons_zero]at gx;have lenx:((cs.drop (j*t'.size)).take t'.size).length=t'.size:=gx.size;have VH:t'.size≠0:=by simpa using aPj
      have aTR:j*t'.size+t'.size<=cs.length:=by simp only[bp,dp]at lenx;omega
      obtain⟨ux,h1,o1⟩:=xI (w:=w) Pc tW bx (cs:=cs) (off:=j*t'.size) aTR;have h3:=pa em n e t' wB d ak ux x0 ⟨_,gx,o1⟩;have nx:bD (df E t') (cs.drop ((j+1)*t'.size)) xs:=by have:=bD.drop aqv 1 hcx';rw[fU]at this;simpa[eE]using this
      have:=ih xs (j+1) (by simpa using hx) nx;rw[List.range'_succ,List.forIn_cons];simp only[Sem.run_bind,run_sizeOf hi,hsz',h1,h3,Result.andThen_ok,Sem.run_pure];exact this
   exact(bo (λr:Result Unit=>r.andThen λ_ w'=>Sem.run P (pure ()) w') (key m x 0 aTV (by simpa using aTH))).trans rfl
  ·rename_i t0 _ _ fs hT;simp only[au,cC]at h;obtain⟨mG,aOZ⟩:=h;have Pc:t0.agg=true:=by cases hl:fs.toList <;> rw[hl]at aOZ <;> cases t0 <;> first | rfl | (simp[NL]at aOZ;done)
   rw[Pc]at hv;have e1:v= .agg cs.toArray:=hv;subst e1
   have key:∀(fl:List Field) (t:Ty) (off:Nat),NL P (tx P n) fl t off=true->∀(x:t.den),df E t (cs.drop off) x->
     (forIn fl () λf __s=>(do
      if f.name≠ "_" then
       let __do_lift <-part f.type cs.toArray f.offset
       Instr.checkKey em d f.type __do_lift
       pure (ForInStep.yield ())
      else pure (ForInStep.yield ()):Sem (ForInStep Unit))).run P w= .ok () w:=by
    intro fl
    induction fl with
    |nil=>intro t off _ x _;rfl
    |cons f fl ih=>
     intro t off hc x hx;cases t <;> first | (simp[NL]at hc;done) | skip
     rename_i ta tb;simp only[NL,au,cC,dv,gE]at hc;obtain⟨⟨⟨⟨⟨⟨aT2,aLe⟩,hz⟩,tW⟩,Pc⟩,wB⟩,aFi⟩:=hc;simp only[df]at hx;obtain⟨xa,xb,ex,aR4,aUr⟩:=hx;have bx:ta.agg=false->ta.size=1:=xK;have lx:xa.length=ta.size:=aR4.size;have sx1:(cs.drop off).take ta.size=xa:=by rw[ex];exact kX lx
     have sx2:cs.drop (off+ta.size)=xb:=by rw[<-fU,ex];exact kW lx
     have sx3:off+ta.size<=cs.length:=by have:=bo ag ex;simp only[dp,ai]at this;omega
     obtain⟨ux,h1,o1⟩:=xI (w:=w) Pc tW bx (cs:=cs) (off:=off) sx3;rw[sx1]at o1;have h3:=pa em n f.type ta wB d ak ux x.1 ⟨_,aR4,o1⟩;have h4:=ih tb (off+ta.size) aFi x.2 (by rw[sx2];exact aUr);rw[List.forIn_cons];simp only[ne_eq,aT2,not_false_eq_true,bG,Sem.run_bind,aLe,h1,h3,Result.andThen_ok,Sem.run_pure];exact h4
   have:=key fs.toList t0 0 aOZ x (by simpa using hx);simp only[Instr.checkKey,Sem.run_bind,run_underlying hT,Result.andThen_ok,Array.forIn_toList]at this ⊢;exact(bo (λr:Result Unit=>r.andThen λ_ w'=>Sem.run P (pure ()) w') this).trans rfl
  ·cases h
theorem Ps{K:TypeId}{kt vt:Ty}(hK:tx P depth K kt=true){v:Value}{x:kt.den}(hx:DT E kt v x):∀(es:List MapEntry) (l:List (kt.den×vt.den)) (i:Nat),Alike (EX E kt vt) es l->
  ∃r,(Instr.findAsking K v es i).run P w= .ok r w/\match r with | none=>iT kt x l=none | some (j,u)=>∃n e,iT kt x l=some n/\j=i+n/\es[n]? =some e/\u=e.val
 |[],[],i,_=>⟨none,by simp[Instr.findAsking],rfl⟩
 |e::es,p::l,i,⟨he,hr⟩=>by
  have hx':=hx;obtain⟨c1,r1,o1⟩:=hx';obtain⟨c2,r2,o2⟩:=he.1;have heq:(Op.equal K v e.key).run P w= .ok (kt.beq x p.1) w:=wA E depth K kt hK 10000 (by decide) c1 c2 x p.1 v e.key r1 r2 o1 o2;cases hb:kt.beq x p.1 with
  |true=>
   rw[hb]at heq;refine⟨some (i,e.val),by simp[Instr.findAsking,heq],0,e,by simp[iT,hb],rfl,rfl,rfl⟩
  |false=>
   rw[hb]at heq;obtain⟨r,h1,h2⟩:=Ps hK hx es l (i+1) hr;refine⟨r,by simp[Instr.findAsking,heq,h1],?_⟩;cases r with
   |none=>simp only at h2 ⊢;simp[iT,hb,h2]
   |some u=>
    obtain⟨j,u⟩:=u;obtain⟨n,e',g1,g2,g3,g4⟩:=h2;exact⟨n+1,e',by simp[iT,hb,g1],ak,by simpa using g3,g4⟩
 |[],_::_,_,h=>h.elim
 |_::_,[],_,h=>h.elim
theorem agE{d:TypeDesc}{kt vt:Ty}{v:Value}{x:kt.den}(hd:∀u y,DT E kt u y->Instr.sameNow d v u=some (kt.beq x y)):∀(es:List MapEntry) (l:List (kt.den×vt.den)) (i:Nat),Alike (EX E kt vt) es l->
  ∃r,Instr.findNow d v es i=some r/\match r with | none=>iT kt x l=none | some (j,u)=>∃n e,iT kt x l=some n/\j=i+n/\es[n]? =some e/\u=e.val
 |[],[],i,_=>⟨none,rfl,rfl⟩
 |e::es,p::l,i,⟨he,hr⟩=>by
  have h0:=hd e.key p.1 he.1;cases hb:kt.beq x p.1 with
  |true=>
   rw[hb]at h0;exact⟨some (i,e.val),by simp[Instr.findNow,h0],0,e,by simp[iT,hb],rfl,rfl,rfl⟩
  |false=>
   rw[hb]at h0;obtain⟨r,h1,h2⟩:=agE hd es l (i+1) hr;refine⟨r,by simp[Instr.findNow,h0,h1],?_⟩;cases r with
   |none=>simp only at h2 ⊢;simp[iT,hb,h2]
   |some u=>
    obtain⟨j,u⟩:=u;obtain⟨n,e',g1,g2,g3,g4⟩:=h2;exact⟨n+1,e',by simp[iT,hb,g1],ak,by simpa using g3,g4⟩
 |[],_::_,_,h=>h.elim
 |_::_,[],_,h=>h.elim
theorem NS{K:TypeId}{kt vt:Ty}(hK:tx P depth K kt=true){v:Value}{x:kt.den}(hx:DT E kt v x){es:List MapEntry}{l:List (kt.den×vt.den)}(h:Alike (EX E kt vt) es l):
  ∃r,(Instr.findKey K v es).run P w= .ok r w/\match r with | none=>iT kt x l=none | some (j,u)=>∃e,iT kt x l=some j/\es[j]? =some e/\u=e.val:=by
 have fin:∀r:Option (Nat×Value),(match r with | none=>iT kt x l=none | some (j,u)=>∃n e,iT kt x l=some n/\j=0+n/\es[n]? =some e/\u=e.val)->match r with | none=>iT kt x l=none | some (j,u)=>∃e,iT kt x l=some j/\es[j]? =some e/\u=e.val:=by
  intro r hr;cases r with
  |none=>exact hr
  |some u=>
   obtain⟨j,u⟩:=u;obtain⟨n,e,g1,g2,g3,g4⟩:=hr;obtain rfl:j=n:=ak;exact⟨e,g1,g3,g4⟩
 have scalar:∀d,P.underlying K=some d->(∀u y,DT E kt u y->Instr.sameNow d v u=some (kt.beq x y))->∃r,(Instr.findKey K v es).run P w= .ok r w/\match r with | none=>iT kt x l=none | some (j,u)=>∃e,iT kt x l=some j/\es[j]? =some e/\u=e.val:=by intro d hd hs;obtain⟨r,h1,h2⟩:=agE hs es l 0 h;exact⟨r,by simp[Instr.findKey,run_underlying hd,h1],fin r h2⟩
 have agg:∀d,P.underlying K=some d->(∀u y,DT E kt u y->Instr.sameNow d v u=none)->∃r,(Instr.findKey K v es).run P w= .ok r w/\match r with | none=>iT kt x l=none | some (j,u)=>∃e,iT kt x l=some j/\es[j]? =some e/\u=e.val:=by
  intro d hd hs;cases es with
  |nil=>
   cases l with
   |nil=>exact⟨none,by simp[Instr.findKey,run_underlying hd,Instr.findNow],rfl⟩
   |cons _ _=>exact h.elim
  |cons e es=>
   cases l with
   |nil=>exact h.elim
   |cons p l=>
    have hn:Instr.findNow d v (e::es) 0=none:=by simp[Instr.findNow,hs e.key p.1 h.1.1]
    obtain⟨r,h1,h2⟩:=Ps (w:=w) (vt:=vt) hK hx (e::es) (p::l) 0 h;exact⟨r,by simp[Instr.findKey,run_underlying hd,hn,h1],fin r h2⟩
 have hK0:=hK;unfold depth at hK0;simp only[tx]at hK0;obtain⟨cx,rx,ox⟩:=hx;split at hK0
 ·rename_i k k' hT;refine scalar _ hT λu y ⟨cy,ry,oy⟩=> ?_
  simp only[df]at rx ry;have e1:cx=[v]:=ox;have e2:cy=[u]:=oy;rw[rx]at e1;rw[ry]at e2;simp only[dh,iQ]at e1 e2;subst e1 e2;simp[Instr.sameNow,Ty.beq]
 ·rename_i hT;refine scalar _ hT λu y ⟨cy,ry,oy⟩=> ?_
  simp only[df]at rx ry;have e1:cx=[v]:=ox;have e2:cy=[u]:=oy;rw[rx]at e1;rw[ry]at e2;simp only[dh,iQ]at e1 e2;subst e1 e2;simp[Instr.sameNow,Ty.beq]
 ·rename_i hT;refine scalar _ hT λu y ⟨cy,ry,oy⟩=> ?_
  simp only[df]at rx ry;have e1:cx=[v]:=ox;have e2:cy=[u]:=oy;rw[rx]at e1;rw[ry]at e2;simp only[dh,iQ]at e1 e2;subst e1 e2;have hs:∀a b:ByteArray,(a==b)=(a.toList==b.toList):=λa b=>by
   by_cases Le:a=b
   ·subst Le;rw[(Go.MapKept.bytes_beq a a).2 rfl];simp
   ·have h1:(a==b)=false:=by
     cases h:(a==b) with
     |false=>rfl
     |true=>exact absurd ((Go.MapKept.bytes_beq a b).1 h) Le
    have h2:(a.toList==b.toList)=false:=by
     cases h:(a.toList==b.toList) with
     |false=>rfl
     |true=>exact absurd (beq_eq .str a b rfl h) Le
    rw[h1,h2]
  simp[Instr.sameNow,Ty.beq,hs]
 ·rename_i m e m' t' hT;exact agg _ hT λu y _=>by simp[Instr.sameNow]
 ·rename_i t0 _ _ fs hT;exact agg _ hT λu y _=>by simp[Instr.sameNow]
 ·cases hK0
end
section
variable {α β:Type} {R:α->β->Prop}
theorem Alike.get:∀ {xs:List α} {ys:List β} {i:Nat} {x:α},Alike R xs ys->xs[i]? =some x->∃y,ys[i]? =some y/\R x y
 |[],_,_,_,_,h=>by simp at h
 |_::_,[],_,_,h,_=>h.elim
 |x::xs,y::ys,0,z,⟨h1,_⟩,h=>by simp at h;subst h;exact⟨y,rfl,h1⟩
 |x::xs,y::ys,i+1,z,⟨_,h2⟩,h=>by simp at h;simpa using Alike.get h2 h
theorem Alike.set{x:α}{y:β}(hx:R x y):∀ {xs:List α} {ys:List β} (i:Nat),Alike R xs ys->Alike R (xs.set i x) (ys.set i y)
 |[],[],_,_=>trivial
 |[],_::_,_,h=>h.elim
 |_::_,[],_,h=>h.elim
 |_::_,_::_,0,⟨_,h2⟩=>⟨hx,h2⟩
 |_::_,_::_,i+1,⟨h1,h2⟩=>⟨h1,Alike.set hx i h2⟩
theorem Alike.push{x:α}{y:β}(hx:R x y):∀ {xs:List α} {ys:List β},Alike R xs ys->Alike R (xs++ [x]) (ys++ [y])
 |[],[],_=>⟨hx,trivial⟩
 |[],_::_,h=>h.elim
 |_::_,[],h=>h.elim
 |_::_,_::_,⟨h1,h2⟩=>⟨h1,Alike.push hx h2⟩
theorem Alike.erase:∀ {xs:List α} {ys:List β} (i:Nat),Alike R xs ys->Alike R (xs.eraseIdx i) (ys.eraseIdx i)
 |[],[],_,_=>by simp[Alike]
 |[],_::_,_,h=>h.elim
 |_::_,[],_,h=>h.elim
 |_::_,_::_,0,⟨_,h2⟩=>h2
 |_::_,_::_,i+1,⟨h1,h2⟩=>⟨h1,Alike.erase i h2⟩
end
theorem QR{α:Type}{f:α->α->Bool}(hf:∀x,f x x=true):∀xs:List α,mu f xs xs=true
 |[]=>rfl
 |x::xs=>by simp[mu,hf x,QR hf xs]
theorem beq_refl:∀(t:Ty) (x:t.den),t.comp=true->t.beq x x=true
 | .int _,x,_=>by simp[Ty.beq]
 | .bool,x,_=>by simp[Ty.beq]
 | .str,x,_=>by simp[Ty.beq]
 | .slice _,_,h=>by simp[Ty.comp]at h
 | .ig _,_,h | .uH _,_,h=>by simp[Ty.comp]at h
 | .unit,_,_=>rfl
 | .pair a b,x,h=>by simp only[Ty.comp,au]at h;simp only[Ty.beq,beq_refl a _ h.1,beq_refl b _ h.2,wi]
 | .arr _ t,x,h=>by simp only[Ty.comp]at h;exact QR (λy=>beq_refl t y h) x
section
variable {β:Type} {kt:Ty}
theorem qB{x:kt.den}:bN kt x ([]:List (kt.den×β))=none:=rfl
theorem fx{x:kt.den}{p:kt.den×β}{l:List (kt.den×β)}:bN kt x (p::l)=if kt.beq x p.1=true then some p.2 else bN kt x l:=by
 unfold bN;cases h:kt.beq x p.1 with
 |true=>simp[iT,h]
 |false=>
  simp only[iT,h];cases iT kt x l <;> simp
theorem azz{x:kt.den}{v:β}:eG kt x v []=[(x,v)]:=rfl
theorem pF{x:kt.den}{v:β}{p:kt.den×β}{l:List (kt.den×β)}:eG kt x v (p::l)=if kt.beq x p.1=true then(x,v)::l else p::eG kt x v l:=by
 unfold eG;cases h:kt.beq x p.1 with
 |true=>simp[iT,h]
 |false=>
  simp only[iT,h];cases iT kt x l <;> simp
theorem azy{x:kt.den}:gY kt x ([]:List (kt.den×β))=[]:=rfl
theorem vM{x:kt.den}{p:kt.den×β}{l:List (kt.den×β)}:gY kt x (p::l)=if kt.beq x p.1=true then l else p::gY kt x l:=by
 unfold gY;cases h:kt.beq x p.1 with
 |true=>simp[iT,h]
 |false=>
  simp only[iT,h];cases iT kt x l <;> simp
theorem KO{x:kt.den}{v:β}:∀l:List (kt.den×β),(eG kt x v l).Perm ((x,v)::gY kt x l)
 |[]=>im _
 |p::l=>by
  rw[pF,vM];split
  ·exact im _
  ·exact((KO l).cons p).trans (List.Perm.swap _ _ _)
theorem uR(hc:kt.comp=true){x:kt.den}:∀ {l:List (kt.den×β)},(l.map (·.1)).Nodup->gY kt x l=l.filter λp=> !kt.beq x p.1
 |[],_=>rfl
 |p::l,hn=>by
  rw[bQ,cV]at hn;rw[vM,List.filter_cons];by_cases h:kt.beq x p.1=true
  ·rw[if_pos h];simp only[h,cm,bn,bt];have hx:=beq_eq kt _ _ hc h;exact(iA.2 λq hq=>by
    simp only[cC];rw[Bool.eq_false_iff];intro hb;have:=beq_eq kt _ _ hc hb;exact hn.1 (by rw[<-hx,this];exact cT.2 ⟨q,hq,rfl⟩)).symm
  ·have h':kt.beq x p.1=false:=by simpa using h
   rw[if_neg h];simp only[h',fb,bG];rw[uR hc hn.2]
theorem jb(hc:kt.comp=true){x:kt.den}{v:β}:∀ {l:List (kt.den×β)},(l.map (·.1)).Nodup->(bN kt x l=some v↔(x,v)∈l)
 |[],_=>by simp[qB]
 |p::l,hn=>by
  rw[bQ,cV]at hn;rw[fx,bY];by_cases h:kt.beq x p.1=true
  ·rw[if_pos h];have hx:=beq_eq kt _ _ hc h;constructor
   ·intro e;left;rw[hx,<-bf e]
   ·rintro(e | e)
    ·rw[<-e]
    ·exact absurd (cT.2 ⟨_,e,rfl⟩) (by rw[<-hx]at hn;exact hn.1)
  ·rw[if_neg h,jb hc hn.2];constructor
   ·exact .inr
   ·rintro(e | e)
    ·exact absurd (by rw[<-e];exact beq_refl kt x hc) h
    ·exact e
theorem aaM(hc:kt.comp=true){x:kt.den}{l l':List (kt.den×β)}(hn:(l.map (·.1)).Nodup)(hp:l'.Perm l):bN kt x l'=bN kt x l:=by apply Option.ext;intro v;rw[jb hc ((hp.map _).nodup_iff.2 hn),jb hc hn,hp.mem_iff]
theorem aaL(hc:kt.comp=true){x:kt.den}{l l':List (kt.den×β)}(hn:(l.map (·.1)).Nodup)(hp:l'.Perm l):(gY kt x l').Perm (gY kt x l):=by rw[uR hc ((hp.map _).nodup_iff.2 hn),uR hc hn];exact hp.filter _
theorem asE(hc:kt.comp=true){x:kt.den}{v:β}{l l':List (kt.den×β)}(hn:(l.map (·.1)).Nodup)(hp:l'.Perm l):(eG kt x v l').Perm (eG kt x v l):=
 (KO l').trans (((aaL hc hn hp).cons _).trans (KO l).symm)
theorem Cv(hc:kt.comp=true){x:kt.den}{l:List (kt.den×β)}(hn:(l.map (·.1)).Nodup):((gY kt x l).map (·.1)).Nodup:=by rw[uR hc hn];exact hn.sublist (List.filter_sublist.map _)
theorem IK(hc:kt.comp=true){x:kt.den}{v:β}{l:List (kt.den×β)}(hn:(l.map (·.1)).Nodup):((eG kt x v l).map (·.1)).Nodup:=by rw[((KO l).map _).nodup_iff,bQ,cV];refine⟨λh=> ?_,Cv hc hn⟩;obtain⟨p,hp,he⟩:=cT.1 h;rw[uR hc hn,nZ]at hp;have:=hp.2;have he:p.1=x:=he;rw[he,beq_refl kt x hc]at this;cases this
end
theorem OI{E:Env}:∀(v:aB) (t:Ty) (x:t.den) (cs:List Value),V E v cs->(rj t v).eval=some x->df E t cs x/\v.agg=t.agg/\v.eQ=true
 | .d t' x',t,x,cs,hv,h=>by
  have h':(Out.opt (vF t' t x')).eval=some x:=by cases t <;> simpa only[rj]using h
  obtain⟨rfl,h'⟩:=jO (ku.1 h');simp only at h';subst h';simp only[V]at hv;exact⟨hv,rfl,rfl⟩
 | .de,.slice t,x,cs,hv,h=>by simp only[rj,ay]at h;subst h;simp only[V]at hv;simp only[df];exact⟨⟨none,0,[],by simpa using hv,by simp,by simp,λi v hh=>by simp at hh,rfl⟩,rfl,rfl⟩
 | .pr a b,.pair ta tb,x,cs,hv,h=>by simp only[rj]at h;obtain⟨x1,h1,h2⟩:=aw.1 h;obtain⟨x2,h3,h4⟩:=aw.1 h2;obtain rfl:=ay.1 h4;simp only[V]at hv;obtain⟨ca,cb,rfl,ha,hb⟩:=hv;simp only[df];exact⟨⟨ca,cb,rfl,(OI a ta x1 ca ha h1).1,(OI b tb x2 cb hb h3).1⟩,rfl,rfl⟩
 | .de,.int _,_,_,_,h | .de,.bool,_,_,_,h | .de,.str,_,_,_,h | .de,.unit,_,_,_,h | .de,.pair _ _,_,_,_,h | .de,.arr _ _,_,_,_,h=>by simp only[rj,av]at h
 | .pr _ _,.int _,_,_,_,h | .pr _ _,.bool,_,_,_,h | .pr _ _,.str,_,_,_,h | .pr _ _,.unit,_,_,_,h | .pr _ _,.slice _,_,_,_,h | .pr _ _,.arr _ _,_,_,_,h=>by simp only[rj,av]at h
 | .undef,t,_,_,_,h | .gone,t,_,_,_,h | .ri,t,_,_,_,h | .xA,t,_,_,_,h | .yl ..,t,_,_,_,h | .De,t,_,_,_,h | .ptr ..,t,_,_,_,h | .dO ..,t,_,_,_,h | .bA ..,t,_,_,_,h | .fn ..,t,_,_,_,h
 | .cons ..,t,_,_,_,h | .nil,t,_,_,_,h | .vec ..,t,_,_,_,h | .sb _,t,_,_,_,h | .bx ..,t,_,_,_,h | .cj ..,t,_,_,_,h | .mp ..,t,_,_,_,h | .tC ..,t,_,_,_,h | .rP ..,t,_,_,_,h=>by cases t <;> simp only[rj,av]at h
theorem aeq{v:aB}{t:Ty}{x:t.den}(h:(rj t v).eval=some x):v.eQ=true:=by cases v <;> first | rfl | (cases t <;> simp only[rj,av]at h)
theorem Gj{E:Env}{v:aB}{y:Value}(hv:VS E v y){t:Ty}{x:t.den}(h:(rj t v).eval=some x):DT E t y x:=by obtain⟨cs,h1,h2⟩:=hv.eQ (aeq h);obtain⟨h3,h4,_⟩:=OI v t x cs h1 h;exact⟨cs,h3,by rw[<-h4];exact h2⟩
theorem Cu{P:Program}{T K V':TypeId}{kt vt:Ty}(h:mapOf P T=some (K,V',kt,vt)):P.underlying T=some (.map K V')/\tx P depth K kt=true/\ala P V' (.d vt vt.zero)=true:=by
 unfold mapOf at h;split at h
 ·rename_i K0 V0 hT;split at h
  ·split at h
   ·rename_i hc;simp only[az,cE]at h;obtain⟨rfl,rfl,rfl,rfl⟩:=h;rw[au]at hc;exact⟨hT,hc.1,hc.2⟩
   ·cases h
  ·cases h
 ·cases h
theorem al4{k v k' v':Ty}{l:List (k.den×v.den)}{l':List (k'.den×v'.den)}(h:arh k v k' v' l=some l'):∃(e1:k=k') (e2:v=v'),(e1▸e2▸l)=l':=by
 unfold arh at h;split at h
 ·rename_i e;exact⟨e.1,e.2,by simpa using h⟩
 ·cases h
section
variable {P:Program} {C:Ctx} {g:Nat->mz} {β:Id->Option Pl} {s:AS} {a:Act} {w:World} {o:Oper}
theorem zF(h:Inv C g β s a w){id:Id}{ver:Nat}{kt vt:Ty}{l:List (kt.den×vt.den)}(ho:(s.uQ id ver kt vt).eval=some l){y:Value}(hv:VS (s.env w g β) (.cj id ver) y):
  ∃fr pl es clock,s.bW id=some (.obj ver fr (.mp kt vt l))/\β id=some pl/\y= .map (some pl.b)/\w.heap[pl.b]? =some (.map es clock)/\g pl.b= .own (.id id) 0/\ahz (s.env w g β) kt vt es.toList l/\oQ es.toList clock/\(l.map (·.1)).Nodup:=by
 unfold AS.uQ at ho;split at ho
 ·rename_i v fr k' v' l' ml;obtain⟨aPf,aSV⟩:=aC.1 ho;have aPf:v=ver:=by simpa using aPf
  obtain⟨rfl,rfl,rfl⟩:=al4 (ku.1 aSV);subst aPf;have cQ:=ee ml;obtain⟨pl,es,clock,h1,h2,h3,h4⟩:=h.bJ id v fr _ cQ;have hs:=hv.single rfl rfl;simp only[V]at hs;obtain⟨b,hb,_,hc⟩:=hs;obtain⟨pl',h5,h6⟩:=hc ⟨fr,_,cQ⟩;have h1:β id=some pl:=h1;have h5:β id=some pl':=h5;rw[h1]at h5;obtain rfl:pl=pl':=by simpa using h5
  refine⟨fr,pl,es,clock,cQ,h1,?_,h2,h3,h4.1.1,h4.2,h4.1.2⟩;have hb:y= .map (some b):=by simpa using hb
  rw[hb,h6]
 ·simp only[av]at ho
theorem ajv(h:Inv C g β s a w){T:TypeId}(dm:o.op= .makeMap T none){s':AS}(he:(II P s o.dst T).eval=some s'):fL P o a w (iB C s'):=by
 unfold II at he;split at he
 ·rename_i K V' kt vt q hm hd;obtain⟨hq,he⟩:=aC.1 he;obtain rfl:=ay.1 he;have ht:=Trans.alloc w g (.map #[] 0) (.own (.id (.new q 0)) 0);obtain⟨h1,h2⟩:=h.SY hq (c:= .mp kt vt []) (p:=some ⟨w.heap.size,0⟩) ht (λb hb=>⟨rA w _ hb,fA _ _ _ ak⟩) (λ_=>
   ⟨⟨w.heap.size,0⟩,#[],0,kh _ _ _,ui w _,fH _ _ _,⟨⟨[],trivial,im _⟩,fW⟩,oQ.nil _⟩)
  refine .inl ⟨.map (some w.heap.size),w.alloc (.map #[] 0),?_,_,_,h1.put o.dst (v:= .cj (.new q 0) 0) ⟨[.map (some w.heap.size)],?_,rfl⟩⟩
  ·refine dW (f:=Instr.makeMap T none) (by simp only[execOp,dm];rfl) ?_
   simp[Instr.makeMap,run_newObj_alloc]
  ·simp only[V];exact⟨_,rfl,qs hq _ _ _ _,λ_=>⟨_,kh _ _ _,rfl⟩⟩
 ·simp only[av]at he
theorem DT.vs{E:Env}{t:Ty}{v:Value}{x:t.den}(h:DT E t v x):VS E (.d t x) v:=by obtain⟨cs,h1,h2⟩:=h;exact⟨cs,by simpa only[V]using h1,h2⟩
theorem anR(h:Inv C g β s a w){T:TypeId}{x i:Operand}{ok:Bool}(dm:o.op= .lookup T x i ok){v:aB}(he:(FT P s T (s.ev x) (s.ev i) ok).eval=some v):fL P o a w (iB C (s.put o.dst v)):=by
 unfold FT at he;split at he
 ·rename_i K V' kt vt id ver hm hx;obtain⟨l,h1,he⟩:=aw.1 he;obtain⟨k,h2,he⟩:=aw.1 he;obtain rfl:=ay.1 he;obtain⟨hT,hK,hz⟩:=Cu hm;have Z6:=h.ev x;rw[hx]at Z6;obtain⟨fr,pl,es,clock,g1,g2,g3,g4,g5,g6,g7,gn⟩:=zF h h1 Z6;have Ma:=AZ depth K kt hK;obtain⟨l0,g6,gp⟩:=g6;rw[<-aaM Ma gn gp];clear gn h1;generalize l0=l at g6;have hk:=Gj (h.ev i) h2;have aNq:=pa (P:=P) (w:=w) es.isEmpty depth K kt hK 10000 (by decide) _ _ hk;obtain⟨r,hf,hr⟩:=NS (P:=P) (w:=w) hK hk g6;obtain⟨iz,zv,z1,z2,z3,z4⟩:=wh hz (s.env w g β);have ayY:DT (s.env w g β) vt zv vt.zero:=⟨_,by simpa only[V]using z3,z4⟩;have hzero:(zeroValue V').run P w= .ok zv w:=by simp[zeroValue,typeInfo,z1,z2]
  obtain⟨val,gG,A5⟩:∃val:Value×Bool,(Instr.lookup T (a.eval x) (a.eval i) ok).run P w= .ok (if ok then .tuple #[val.1,.bool val.2] else val.1) w/\DT (s.env w g β) vt val.1 ((bN kt k l).getD vt.zero)/\val.2=(bN kt k l).isSome:=by
   cases r with
   |none=>
    simp only at hr;have hg:bN kt k l=none:=by simp[bN,hr]
    refine⟨(zv,false),?_,by rw[hg];exact ayY,by rw[hg];rfl⟩;simp[Instr.lookup,run_underlying hT,g3,Go.MapKept.run_getObj_map g4,aNq,hf,hzero]
   |some u=>
    obtain⟨j,u⟩:=u;obtain⟨e,m1,m2,rfl⟩:=hr;obtain⟨p,m3,m4⟩:=g6.get m2;have hg:bN kt k l=some p.2:=by simp[bN,m1,m3]
    refine⟨(e.val,true),?_,by rw[hg];exact m4.2,by rw[hg];rfl⟩;simp[Instr.lookup,run_underlying hT,g3,Go.MapKept.run_getObj_map g4,aNq,hf]
  refine h.value (x:=if ok then .tuple #[val.1,.bool val.2] else val.1) ?_ (dW (f:=Instr.lookup T (a.eval x) (a.eval i) ok) (by simp only[execOp,dm]) gG)
  unfold aNJ;cases ok with
  |true=>
   obtain⟨cs,c1,c2⟩:=A5.1;refine⟨[val.1,.bool val.2],rfl,?_⟩;simp only[VC];refine⟨_,_,cs,rfl,by simpa only[V]using c1,c2,_,_,[.bool val.2],rfl,?_,rfl,rfl⟩;simp only[V,df,A5.2]
  |false=>exact A5.1.vs
 ·simp only[av]at he
theorem Inv.aHY(h:Inv C g β s a w){id:Id}{ver:Nat}{fr:Bool}{kt vt:Ty}{l l':List (kt.den×vt.den)}{pl:Pl}{es es':Array MapEntry}{clock clock':Nat}(cQ:s.bW id=some (.obj ver fr (.mp kt vt l)))(hp:β id=some pl)
  (hb:w.heap[pl.b]? =some (.map es clock)) (hg:g pl.b= .own (.id id) 0) (hr:ahz (s.env w g β) kt vt es'.toList l') (aWN:(l'.map (·.1)).Nodup) (aRo:oQ es'.toList clock') (aPd:s.vg id=true):
  Inv C g β (s.bl id (.obj ver false (.mp kt vt l'))) a {w with heap:=w.heap.setIfInBounds pl.b (.map es' clock')}:=by
 have gQ:pl.b < w.heap.size:=(bP.1 hb).1;have hother:∀b',b'≠pl.b->({w with heap:=w.heap.setIfInBounds pl.b (.map es' clock')}:World).heap[b']? =w.heap[b']? :=λb' gF=>by
  show(w.heap.setIfInBounds pl.b _)[b']? =_
  rw[dT,if_neg (λe=>gF e.symm)]
 have ht:Trans w {w with heap:=w.heap.setIfInBounds pl.b (.map es' clock')} g g:=by
  refine⟨rfl,rfl,⟨rfl,ax _⟩,by simp,λb' _=> ?_⟩;by_cases he:b'=pl.b
  ·subst he;rw[hg];exact⟨.inr ⟨id,0,rfl,ax _⟩,λ_ _ hh=>ak⟩
  ·rw[hother b' he];cases Xa:g b' with
   |free=>exact⟨rfl,rfl⟩
   |own o' k=>cases o' with
    |eo=>exact⟨rfl,rfl⟩
    |id i'=>exact⟨.inr ⟨i',k,rfl,ax _⟩,λoff v _ hv=>by simpa only[World.cell?,hother b' he]using hv⟩
 have hle:cM (s.env w g β) ((s.bl id (.obj ver false (.mp kt vt l'))).env {w with heap:=w.heap.setIfInBounds pl.b (.map es' clock')} g β):=cM.bl cQ (ax _) ht (λ_ _=>rfl) (λ_=>rfl);refine h.step (dj _ _ _) ht hle (iZ.bl h.bJ (by rw[cQ];simp) hle (λ_ _=>rfl) (λi ver fr c pl2 hi Z4 XY=>⟨hother _ (h.apart hg hi Z4 XY),rfl⟩) ?_ (by obtain rfl:=Ka cQ aPd;exact QT cQ));refine⟨pl,es',clock',hp,?_,hg,⟨hr.mono hle.mem,aWN⟩,aRo⟩;show(w.heap.setIfInBounds pl.b _)[pl.b]? =_
 rw[dT,if_pos rfl,if_pos gQ]
theorem anY(h:Inv C g β s a w){T:TypeId}{m k x:Operand}(dm:o.op= .mapUpdate T m k x){s':AS}(he:(FY P s T (s.ev m) (s.ev k) (s.ev x)).eval=some s'):fL P o a w (iB C (s'.put o.dst .undef)):=by
 unfold FY at he;split at he
 ·rename_i K V' kt vt id ver hm hx;obtain⟨l,h1,he⟩:=aw.1 he;obtain⟨kx,h2,he⟩:=aw.1 he;obtain⟨vx,h3,he⟩:=aw.1 he;obtain⟨aPd,he⟩:=aC.1 he;obtain rfl:=ay.1 he;obtain⟨hT,hK,_⟩:=Cu hm;have Z6:=h.ev m;rw[hx]at Z6;obtain⟨fr,pl,es,clock,g1,g2,g3,g4,g5,g6,g7,gn⟩:=zF h h1 Z6;obtain⟨l0,g6,gp⟩:=g6;have hk:=Gj (h.ev k) h2;have hv:=Gj (h.ev x) h3;have aNq:=pa (P:=P) (w:=w) false depth K kt hK 10000 (by decide) _ _ hk;obtain⟨r,hf,hr⟩:=NS (P:=P) (w:=w) hK hk g6;have Ma:=AZ depth K kt hK
  have fin:∀(es':Array MapEntry) (clock':Nat),(Instr.mapUpdate T (a.eval m) (a.eval k) (a.eval x)).run P w= .ok () {w with heap:=w.heap.setIfInBounds pl.b (.map es' clock')}->Alike (EX (s.env w g β) kt vt) es'.toList (eG kt kx vx l0)->oQ es'.toList clock'->
    fL P o a w (iB C ((s.bl id (.obj ver false (.mp kt vt (eG kt kx vx l)))).put o.dst .undef)):=λes' clock' gG aE7 aRo=>
   .inr (.inl ⟨_,afX (f:=Instr.mapUpdate T (a.eval m) (a.eval k) (a.eval x)) (by simp only[execOp,dm]) gG,g,β,(h.aHY g1 g2 g4 g5 ⟨_,aE7,asE Ma gn gp⟩ (IK Ma gn) aRo aPd).put o.dst VS.undef⟩)
  cases r with
  |none=>
   simp only at hr;refine fin (es.push {key:=a.eval k,val:=a.eval x,born:=clock}) (clock+1) ?_ ?_ (by rw[Array.toList_push];exact g7.push rfl)
   ·simp[Instr.mapUpdate,run_underlying hT,g3,Go.MapKept.run_getObj_map g4,aNq,hf,Go.MapKept.run_setObj_map _ g4]
   ·simp only[eG,hr,Array.toList_push];exact g6.push ⟨hk,hv⟩
  |some u=>
   obtain⟨j,u⟩:=u;obtain⟨e,m1,m2,rfl⟩:=hr;obtain⟨p,m3,m4⟩:=g6.get m2;have aTC:kt.beq kx p.1=true:=by
    have:∀(l:List (kt.den×vt.den)) (j:Nat),iT kt kx l=some j->∀p,l[j]? =some p->kt.beq kx p.1=true:=by
     intro l
     induction l with
     |nil=>intro j hj;simp[iT]at hj
     |cons q l ih=>
      intro j hj p hp;simp only[iT]at hj;cases hb:kt.beq kx q.1 with
      |true=>
       rw[hb]at hj;simp only[az]at hj;subst hj;simp at hp;subst hp;exact hb
      |false=>
       rw[hb]at hj;simp only[dd]at hj;obtain⟨j',hj',rfl⟩:=hj;exact ih j' hj' p (by simpa using hp)
    exact this l0 j m1 p m3
   have aUs:=beq_eq kt kx p.1 Ma aTC;have aTS:e.key=a.eval k:=DT.aOy Ma (aUs▸m4.1) hk;have m2':es[j]? =some e:=by simpa using m2
   refine fin (es.modify j λe=> {e with key:=a.eval k,val:=a.eval x}) clock ?_ ?_ (by rw[Array.toList_modify,Go.ChangeMaps.modify_eq_set _ _ _ _ m2];exact g7.set m2 rfl)
   ·simp[Instr.mapUpdate,run_underlying hT,g3,Go.MapKept.run_getObj_map g4,aNq,hf,m2',aTS,aAX Ma hk,Go.MapKept.run_setObj_map _ g4]
   ·simp only[eG,m1,Array.toList_modify];rw[Go.ChangeMaps.modify_eq_set _ _ _ _ m2];exact Alike.set (R:=EX (s.env w g β) kt vt) ⟨hk,hv⟩ j g6
 ·simp only[av]at he
end
end Go.Ab
end
