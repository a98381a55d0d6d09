/-
  Made short by a program of mine (wip/tools/mini.py).
-/
import Derived.WalkKit
import Derived.KernelRfl
import Derived.OrdersIn
import Derived.LoopNIn
import Derived.TacticsIn
import Derived.RangeFuncCalls
import Derived.RangeFuncLeaves
import Derived.RangeFuncRecord
import Derived.LaidEql
import Derived.MapKept
import Derived.ChangeMaps3
set_option linter.unusedVariables false
set_option linter.unusedSimpArgs false
set_option maxRecDepth 100000
set_option synthInstance.maxSize 5000
open Go renaming IntKind->kY,Operand->bB,MapEntry->fq
open List renaming replicate->ae,map->fX,set->dZ
open BitVec renaming ofInt->bn
open Nat renaming blt->lM,beq->jD
open Go.Value renaming oneCell'->cW
open Go.World renaming cell?->eL
open Go.Sem renaming run_bind->dM
open Go.Addr renaming add_lit->eI
open Go.Result renaming andThen_ok->cU
open Go.Op renaming equalIn->dg
open Option renaming some->aj,none->aF
open Bool renaming true->aL,false->aS
noncomputable section
namespace Go.Ab
theorem uz:type_of% @Array.ext':= @Array.ext'
theorem ek:type_of% @Array.getD_eq_getD_getElem?:= @Array.getD_eq_getD_getElem?
theorem cE:type_of% @Array.getElem?_eq_some_iff:= @Array.getElem?_eq_some_iff
theorem fG:type_of% @Array.getElem?_setIfInBounds:= @Array.getElem?_setIfInBounds
theorem eX:type_of% @Array.length_toList:= @Array.length_toList
theorem df:type_of% @Array.toList_append:= @Array.toList_append
theorem jf:type_of% @BitVec.ofInt_natCast:= @BitVec.ofInt_natCast
theorem uE:type_of% @BitVec.toNat_ofInt:= @BitVec.toNat_ofInt
theorem kB:type_of% @BitVec.toNat_ofNat:= @BitVec.toNat_ofNat
theorem ax:type_of% @Bool.and_eq_true:= @Bool.and_eq_true
theorem fi:type_of% @Bool.eq_false_iff:= @Bool.eq_false_iff
theorem my:type_of% @Bool.eq_false_or_eq_true:= @Bool.eq_false_or_eq_true
theorem tM:type_of% @Bool.eq_iff_iff:= @Bool.eq_iff_iff
theorem dm:type_of% @Bool.false_and:= @Bool.false_and
theorem bw:type_of% @Bool.false_eq_true:= @Bool.false_eq_true
theorem pA:type_of% @Bool.false_or:= @Bool.false_or
theorem dv:type_of% @Bool.not_eq_true':= @Bool.not_eq_true'
theorem dK:type_of% @Bool.not_false:= @Bool.not_false
theorem bY:type_of% @Bool.not_true:= @Bool.not_true
theorem tN:type_of% @Bool.or_eq_true:= @Bool.or_eq_true
theorem tf:type_of% @Bool.or_false:= @Bool.or_false
theorem bF:type_of% @Bool.true_and:= @Bool.true_and
theorem ot:type_of% @Bool.true_or:= @Bool.true_or
theorem yu:type_of% @Int.add_assoc:= @Int.add_assoc
theorem vU:type_of% @Int.add_emod:= @Int.add_emod
theorem rz:type_of% @Int.dvd_refl:= @Int.dvd_refl
theorem hH:type_of% @Int.emod_emod_of_dvd:= @Int.emod_emod_of_dvd
theorem fM:type_of% @Int.emod_eq_of_lt:= @Int.emod_eq_of_lt
theorem kC:type_of% @Int.emod_lt_of_pos:= @Int.emod_lt_of_pos
theorem pd:type_of% @Int.emod_nonneg:= @Int.emod_nonneg
theorem eV:type_of% @Int.le_refl:= @Int.le_refl
theorem th:type_of% @Int.mul_assoc:= @Int.mul_assoc
theorem vV:type_of% @Int.mul_comm:= @Int.mul_comm
theorem jN:type_of% @Int.mul_emod:= @Int.mul_emod
theorem zA:type_of% @Int.mul_one:= @Int.mul_one
theorem rG:type_of% @Int.natCast_emod:= @Int.natCast_emod
theorem pf:type_of% @Int.natCast_mul:= @Int.natCast_mul
theorem kD:type_of% @Int.natCast_nonneg:= @Int.natCast_nonneg
theorem lu:type_of% @Int.natCast_pow:= @Int.natCast_pow
theorem fO:type_of% @Int.pow_succ:= @Int.pow_succ
theorem lI:type_of% @Int.pow_zero:= @Int.pow_zero
theorem jO:type_of% @Int.sub_zero:= @Int.sub_zero
theorem im:type_of% @Int.tmod_eq_emod_of_nonneg:= @Int.tmod_eq_emod_of_nonneg
theorem aa:type_of% @Int.toNat_natCast:= @Int.toNat_natCast
theorem aW:type_of% @Int.toNat_zero:= @Int.toNat_zero
theorem eR:type_of% @List.all_cons:= @List.all_cons
theorem bQ:type_of% @List.all_eq_true:= @List.all_eq_true
theorem yw:type_of% @List.any_cons:= @List.any_cons
theorem rH:type_of% @List.any_eq_true:= @List.any_eq_true
theorem aM:type_of% @List.append_assoc:= @List.append_assoc
theorem mZ:type_of% @List.append_cons:= @List.append_cons
theorem bJ:type_of% @List.append_nil:= @List.append_nil
theorem uG:type_of% @List.append_of_mem:= @List.append_of_mem
theorem ct:type_of% @List.cons.injEq:= @List.cons.injEq
theorem na:type_of% @List.cons_append:= @List.cons_append
theorem nb:type_of% @List.drop_append:= @List.drop_append
theorem gO:type_of% @List.drop_drop:= @List.drop_drop
theorem aq:type_of% @List.drop_eq_getElem_cons:= @List.drop_eq_getElem_cons
theorem ph:type_of% @List.drop_left':= @List.drop_left'
theorem aH:type_of% @List.drop_length:= @List.drop_length
theorem fv:type_of% @List.drop_of_length_le:= @List.drop_of_length_le
theorem vW:type_of% @List.drop_take:= @List.drop_take
theorem aO:type_of% @List.drop_zero:= @List.drop_zero
theorem bD:type_of% @List.eq_nil_of_length_eq_zero:= @List.eq_nil_of_length_eq_zero
theorem pT:type_of% @List.eraseIdx_sublist:= @List.eraseIdx_sublist
theorem rI:type_of% @List.ext_getElem:= @List.ext_getElem
theorem iV:type_of% @List.filter_cons:= @List.filter_cons
theorem sZ:type_of% @List.filter_eq_self:= @List.filter_eq_self
theorem dC:type_of% @List.flatMap_cons:= @List.flatMap_cons
theorem rJ:type_of% @List.flatMap_nil:= @List.flatMap_nil
theorem lJ:type_of% @List.flatten_cons:= @List.flatten_cons
theorem rK:type_of% @List.flatten_nil:= @List.flatten_nil
theorem aX:type_of% @List.foldl_cons:= @List.foldl_cons
theorem eO:type_of% @List.foldl_nil:= @List.foldl_nil
theorem bS:type_of% @List.getD_eq_getElem?_getD:= @List.getD_eq_getElem?_getD
theorem kE:type_of% @List.getElem?_drop:= @List.getElem?_drop
theorem cm:type_of% @List.getElem?_eq_getElem:= @List.getElem?_eq_getElem
theorem kZ:type_of% @List.getElem?_eq_none:= @List.getElem?_eq_none
theorem gw:type_of% @List.getElem?_eq_some_iff:= @List.getElem?_eq_some_iff
theorem gI:type_of% @List.getElem?_map:= @List.getElem?_map
theorem lK:type_of% @List.getElem?_set_ne:= @List.getElem?_set_ne
theorem dA:type_of% @List.getElem?_take:= @List.getElem?_take
theorem aR:type_of% @List.getElem_mem:= @List.getElem_mem
theorem ai:type_of% @List.length_append:= @List.length_append
theorem aE:type_of% @List.length_cons:= @List.length_cons
theorem gm:type_of% @List.length_drop:= @List.length_drop
theorem qm:type_of% @List.length_eraseIdx:= @List.length_eraseIdx
theorem bq:type_of% @List.length_nil:= @List.length_nil
theorem dR:type_of% @List.length_replicate:= @List.length_replicate
theorem tO:type_of% @List.length_set:= @List.length_set
theorem dw:type_of% @List.length_take:= @List.length_take
theorem lz:type_of% @List.map_append:= @List.map_append
theorem eY:type_of% @List.map_congr_left:= @List.map_congr_left
theorem bM:type_of% @List.map_cons:= @List.map_cons
theorem gW:type_of% @List.map_nil:= @List.map_nil
theorem bg:type_of% @List.mem_append:= @List.mem_append
theorem ez:type_of% @List.mem_append_left:= @List.mem_append_left
theorem ld:type_of% @List.mem_append_right:= @List.mem_append_right
theorem bI:type_of% @List.mem_cons:= @List.mem_cons
theorem az:type_of% @List.mem_cons_of_mem:= @List.mem_cons_of_mem
theorem aC:type_of% @List.mem_cons_self:= @List.mem_cons_self
theorem hJ:type_of% @List.mem_flatMap:= @List.mem_flatMap
theorem lf:type_of% @List.mem_iff_getElem?:= @List.mem_iff_getElem?
theorem eu:type_of% @List.mem_map:= @List.mem_map
theorem dD:type_of% @List.mem_of_getElem?:= @List.mem_of_getElem?
theorem qo:type_of% @List.mem_of_mem_take:= @List.mem_of_mem_take
theorem ou:type_of% @List.mem_replicate:= @List.mem_replicate
theorem aY:type_of% @List.mem_singleton:= @List.mem_singleton
theorem bm:type_of% @List.nil_append:= @List.nil_append
theorem ee:type_of% @List.nodup_cons:= @List.nodup_cons
theorem kF:type_of% @List.nodup_nil:= @List.nodup_nil
theorem jg:type_of% @List.pairwise_append:= @List.pairwise_append
theorem ov:type_of% @List.pairwise_cons:= @List.pairwise_cons
theorem iP:type_of% @List.set_getElem_self:= @List.set_getElem_self
theorem cS:type_of% @List.singleton_append:= @List.singleton_append
theorem iq:type_of% @List.size_toArray:= @List.size_toArray
theorem jb:type_of% @List.sum_cons:= @List.sum_cons
theorem eJ:type_of% @List.take_append_drop:= @List.take_append_drop
theorem bK:type_of% @List.take_length:= @List.take_length
theorem bG:type_of% @List.take_of_length_le:= @List.take_of_length_le
theorem ir:type_of% @List.take_succ_eq_append_getElem:= @List.take_succ_eq_append_getElem
theorem fe:type_of% @List.take_zero:= @List.take_zero
theorem fk:type_of% @Nat.add_assoc:= @Nat.add_assoc
theorem hP:type_of% @Nat.add_mul:= @Nat.add_mul
theorem de:type_of% @Nat.add_zero:= @Nat.add_zero
theorem gM:type_of% @Nat.eq_of_beq_eq_true:= @Nat.eq_of_beq_eq_true
theorem dH:type_of% @Nat.le_of_ble_eq_true:= @Nat.le_of_ble_eq_true
theorem vX:type_of% @Nat.le_of_eq:= @Nat.le_of_eq
theorem aB:type_of% @Nat.le_refl:= @Nat.le_refl
theorem gQ:type_of% @Nat.lt_irrefl:= @Nat.lt_irrefl
theorem nc:type_of% @Nat.mod_eq_of_lt:= @Nat.mod_eq_of_lt
theorem lN:type_of% @Nat.mul_mod:= @Nat.mul_mod
theorem hZ:type_of% @Nat.mul_one:= @Nat.mul_one
theorem jG:type_of% @Nat.not_lt_zero:= @Nat.not_lt_zero
theorem vf:type_of% @Nat.one_mul:= @Nat.one_mul
theorem qp:type_of% @Nat.pow_add:= @Nat.pow_add
theorem aU:type_of% @Nat.zero_add:= @Nat.zero_add
theorem aK:type_of% @Nat.zero_le:= @Nat.zero_le
theorem eB:type_of% @Option.getD_some:= @Option.getD_some
theorem uH:type_of% @Option.isNone_none:= @Option.isNone_none
theorem dL:type_of% @Option.map_eq_some_iff:= @Option.map_eq_some_iff
theorem iC:type_of% @Option.map_some:= @Option.map_some
theorem bh:type_of% @Option.some.inj:= @Option.some.inj
theorem bf:type_of% @Option.some.injEq:= @Option.some.injEq
theorem jU:type_of% @Prod.mk.injEq:= @Prod.mk.injEq
theorem ko:type_of% @Sum.getLeft?_inl:= @Sum.getLeft?_inl
theorem cV:type_of% @Sum.getRight?_inr:= @Sum.getRight?_inr
theorem ng:type_of% @Sum.isLeft_inl:= @Sum.isLeft_inl
theorem dN:type_of% @Sum.isLeft_inr:= @Sum.isLeft_inr
theorem ji:type_of% @and_self:= @and_self
theorem gR:type_of% @and_true:= @and_true
theorem mS:type_of% @beq_eq_false_iff_ne:= @beq_eq_false_iff_ne
theorem gE:type_of% @beq_iff_eq:= @beq_iff_eq
theorem qD:type_of% @decide_eq_true:= @decide_eq_true
theorem bO:type_of% @decide_eq_true_eq:= @decide_eq_true_eq
theorem cG:type_of% @decide_true:= @decide_true
theorem yC:type_of% @dif_pos:= @dif_pos
theorem pB:type_of% @false_and:= @false_and
theorem bp:type_of% @if_false:= @if_false
theorem bE:type_of% @if_true:= @if_true
theorem iw:type_of% @true_and:= @true_and
end Go.Ab
namespace Go.Ab
theorem eG{p:Prop}(h:p:=by decide):p:=h
theorem au{p:Prop}(h:p:=by omega):p:=h
theorem cf{p:Prop}(h:p:=by kernel_rfl):p:=h
inductive Ty where
 |int (k:kY) | bool | str | slice (t:Ty) | unit | pair (a b:Ty) | arr (n:Nat) (t:Ty)
 |fx (t:Ty)
 |nK (t:Ty)
 |gF (t:Ty)
 |eP (t:Ty)
 |js (z:Nat)
 |jp (n:Nat)
 deriving DecidableEq,Inhabited
@[reducible] def Ty.den:Ty->Type
 | .int _=>Int
 | .bool=>Bool
 | .str=>ByteArray
 | .slice t=>List t.den
 | .unit=>Unit
 | .pair a b=>a.den×b.den
 | .arr _ t=>List t.den
 | .fx t=>Option (List t.den)
 | .nK t=>Option t.den
 | .gF t=>Option (Nat×t.den)
 | .eP t=>Bool×List t.den
 | .js _=>Nat
 | .jp _=>Unit
def Ty.size:Ty->Nat
 | .unit=>0
 | .pair a b=>a.size+b.size
 | .arr n t=>n*t.size
 | .int _ | .bool | .str | .slice _ | .fx _ | .nK _ | .gF _ | .eP _ | .js _ | .jp _=>1
def Ty.agg:Ty->Bool
 | .unit | .pair _ _ | .arr _ _=>aL
 | .int _ | .bool | .str | .slice _ | .fx _ | .nK _ | .gF _ | .eP _ | .js _ | .jp _=>aS
def Ty.zero:(t:Ty)->t.den
 | .int _=>(0:Int)
 | .bool=>aS
 | .str=>ByteArray.empty
 | .slice _=> []
 | .unit=>()
 | .pair a b=>(a.zero,b.zero)
 | .arr n t=>ae n t.zero
 | .fx _=>aF
 | .nK _=>aF
 | .gF _=>aF
 | .eP _=>(aL,[])
 | .js _=>(0:Nat)
 | .jp _=>()
def Ty.comp:Ty->Bool
 | .slice _ | .fx _ | .nK _ | .eP _ | .js _ | .jp _=>aS
 | .pair a b=>a.comp && b.comp
 | .arr _ t=>t.comp
 | .int _ | .bool | .str | .unit | .gF _=>aL
def mU{α:Type}(f:α->α->Bool):List α->List α->Bool
 |[],[]=>aL
 |x::xs,y::ys=>f x y && mU f xs ys
 |_,_=>aS
def Ty.ato:(t:Ty)->(x y:t.den)->Decidable (x=y)
 | .int _,x,y=>inferInstanceAs (Decidable (@Eq Int x y))
 | .bool,x,y=>inferInstanceAs (Decidable (@Eq Bool x y))
 | .str,x,y=>inferInstanceAs (Decidable (@Eq ByteArray x y))
 | .slice t,x,y=> @instDecidableEqList t.den t.ato x y
 | .unit,_,_=>isTrue rfl
 | .pair a b,x,y=> @instDecidableEqProd a.den b.den a.ato b.ato x y
 | .arr _ t,x,y=> @instDecidableEqList t.den t.ato x y
 | .fx t,x,y=>letI:DecidableEq t.den:=t.ato;inferInstanceAs (Decidable (@Eq (Option (List t.den)) x y))
 | .nK t,x,y=>letI:DecidableEq t.den:=t.ato;inferInstanceAs (Decidable (@Eq (Option t.den) x y))
 | .gF t,x,y=>letI:DecidableEq t.den:=t.ato;inferInstanceAs (Decidable (@Eq (Option (Nat×t.den)) x y))
 | .eP t,x,y=>letI:DecidableEq t.den:=t.ato;inferInstanceAs (Decidable (@Eq (Bool×List t.den) x y))
 | .js _,x,y=>inferInstanceAs (Decidable (@Eq Nat x y))
 | .jp _,_,_=>isTrue rfl
def Ty.ayf:Ty->Bool
 | .fx _ | .eP _ | .js _ | .jp _=>aS
 | .slice t | .arr _ t | .nK t | .gF t=>t.ayf
 | .pair a b=>a.ayf && b.ayf
 | .int _ | .bool | .str | .unit=>aL
def Ty.beq:(t:Ty)->t.den->t.den->Bool
 | .int _,x,y=>(x:Int)==y
 | .bool,x,y=>(x:Bool)==y
 | .str,x,y=>(x:ByteArray).toList==(y:ByteArray).toList
 | .slice t,x,y=>mU t.beq x y
 | .unit,_,_=>aL
 | .pair a b,x,y=>a.beq x.1 y.1 && b.beq x.2 y.2
 | .arr _ t,x,y=>mU t.beq x y
 | .fx t,x,y=>mU t.beq (x.getD []) (y.getD [])
 | .nK _,_,_ | .eP _,_,_ | .js _,_,_ | .jp _,_,_=>aS
 | .gF t,x,y=> @decide (x=y) ((Ty.gF t).ato x y)
def wa(t t':Ty)(x:t.den):Option t'.den:=if h:t=t' then aj (h▸x) else aF
def aba:(a b:Ty)->Option (a.den->b.den)
 | .fx t,.slice t'=>if h:t=t' then aj λo=>cast (congrArg (λt:Ty=>List t.den) h) (o.getD []) else aF
 | .slice t,.fx t'=>if h:t=t' then aj λl=>aj (cast (congrArg (λt:Ty=>List t.den) h) l) else aF
 | .pair a b,.pair c d=>match aba a c,aba b d with
  |some f,aj k=>aj λx=>(f x.1,k x.2)
  |_,_=>aF
 | .slice a,.slice b=>match aba a b with
  |some f=>aj (fX f)
  |none=>aF
 | .slice t,.eP t'=>if h:t=t' then aj λl=>(aS,cast (congrArg (λt:Ty=>List t.den) h) l) else aF
 |a,b=>if h:a=b then aj (cast (congrArg Ty.den h)) else aF
def aOu(a b:Ty)(x:a.den):b.den:=match aba a b with | some f=>f x | none=>b.zero
def AM(t t':Ty)(x:t.den):Option t'.den:=
 match wa t t' x with
 |some y=>aj y
 |none=>match aba t t' with
  |some f=>aj (f x)
  |none=>aF
def Ty.qh:Ty->Bool
 | .eP _=>aS
 | .slice t | .arr _ t | .fx t | .nK t | .gF t=>t.qh
 | .pair a b=>a.qh && b.qh
 | .int _ | .bool | .str | .unit | .js _ | .jp _=>aL
def Ty.ZN:Ty->Ty
 | .eP t=> .js t.size
 | .pair a b=> .pair a.ZN b.ZN
 |t=>t
def Ty.mr:(t:Ty)->t.den->Bool
 | .eP t,x=>x.1 && !(t.size==0)
 | .pair a b,x=>a.mr x.1 && b.mr x.2
 |t,_=>t.qh
def Ty.AF:(t:Ty)->t.den->t.ZN.den
 | .eP t,x=>(x:Bool×List t.den).2.length
 | .pair a b,x=>(a.AF x.1,b.AF x.2)
 | .int _,x | .bool,x | .str,x | .slice _,x | .unit,x | .arr _ _,x | .fx _,x | .nK _,x | .gF _,x | .js _,x | .jp _,x=>x
def Ty.agj:Ty->Ty
 | .eP t=> .slice t
 | .pair a b=> .pair a.agj b.agj
 |t=>t
def Ty.Ky:(t:Ty)->t.den->t.agj.den
 | .eP t,x=>(x:Bool×List t.den).2
 | .pair a b,x=>(a.Ky x.1,b.Ky x.2)
 | .int _,x | .bool,x | .str,x | .slice _,x | .unit,x | .arr _ _,x | .fx _,x | .nK _,x | .gF _,x | .js _,x | .jp _,x=>x
def nth(t:Ty)(l:List t.den)(i:Nat):t.den:=l.getD i t.zero
inductive Id where
 |bW (k:Nat)
 |new (site j:Nat)
 deriving DecidableEq,Inhabited
inductive Hk where
 |fst | snd
 |idx (i:Nat)
 |arr
structure xO where
 y:Nat
 ps:Array Tmp
 as:Code
 b:Code
inductive aA where
 |undef
 |gone
 |cT | iQ | xu | Dh
 |d (t:Ty) (x:t.den)
 |pr (a b:aA)
 |ptr (id:Id) (ver:Nat) (p:List Hk) (n:Nat)
 |dx (t:Ty) (x:t.den)
 |cg (id:Id) (ver:Nat) (p:List Hk) (c i len:Nat)
 |fn (f:FuncId) (caps:aA)
 |cons (a b:aA)
 |nil
 |vec (e:TypeId) (t:Ty) (l:List t.den)
 |sb (l:List Int)
 |bx (e:TypeId) (z:Nat) (c:aA)
 |cK (id:Id) (ver:Nat)
 |mp (k v:Ty) (l:List (k.den×v.den))
 |rW (q:Id) (ver:Nat) (k v:Ty) (rest:List (k.den×v.den)) (cur:Option (k.den×v.den))
 |yl (id:Id) (ver:Nat)
 |Ay (c:xO) (frame:aA) (p:Nat)
inductive dT where
 |dead
 |obj (ver:Nat) (fr:Bool) (c:aA)
def cO(c:aA):dT:= .obj 0 aS c
def cJ(c:aA):List dT:=[.obj 0 aS c]
def dP(q:Nat):aA:= .ptr (.new q 0) 0 [] 0
def je(q n:Nat):aA:= .cg (.new q 0) 0 [] 0 0 n
def jL:aA:= .d .unit ()
def bC:aA:= .undef
structure AS where
 bZ:List aA
 cH:List dT
 news:List (List dT)
def aQ(n:Nat)(l:List aA):List aA:=ae n .undef++l
def bk(n:Nat)(l:List (List dT)):List (List dT):=ae n []++l
inductive Out(α:Type):Type 1 where
 |ok (a:α)
 |fail
 |uK (c:Bool) (r:Out α)
 |get {β:Type} (x:Option β) (f:β->Out α)
 |br (c:Bool) (a b:Out α)
def Out.eval{α:Type}:Out α->Option α
 | .ok a=>aj a
 | .fail=>aF
 | .uK c r=>match c with | true=>r.eval | false=>aF
 | .get x f=>match x with | some y=>(f y).eval | none=>aF
 | .br c a b=>match c with | true=>a.eval | false=>b.eval
def aG{α:Type}(c:Bool)(x y:Option α):Option α:=match c with | true=>x | false=>y
def al{α β:Type}(x:Option α)(f:α->Option β):Option β:=match x with | some a=>f a | none=>aF
def Out.run{α R:Type}:Out α->(α->Option R)->Option R
 | .ok a,k=>k a
 | .fail,_=>aF
 | .uK c r,k=>aG c (r.run k) aF
 | .get x f,k=>al x λy=>(f y).run k
 | .br c a b,k=>aG c (a.run k) (b.run k)
def Out.bind{α β:Type}:Out α->(α->Out β)->Out β
 | .ok a,f=>f a
 | .fail,_=> .fail
 | .uK c r,f=> .uK c (r.bind f)
 | .get x g,f=> .get x λy=>(g y).bind f
 | .br c a b,f=> .br c (a.bind f) (b.bind f)
def Out.opt{α:Type}:Option α->Out α
 |some a=> .ok a
 |none=> .fail
def Out.guard{α:Type}(c:Bool)(r:Out α):Out α:=match c with | true=>r | false=> .fail
def aA.size:aA->Nat
 | .d t _=>t.size
 | .pr a b=>a.size+b.size
 |_=>1
def aA.agg:aA->Bool
 | .d t _=>t.agg
 | .pr _ _=>aL
 |_=>aS
def aA.eg:aA->Bool
 | .undef | .cons _ _ | .nil | .vec .. | .bx .. | .mp .. | .rW .. | .Ay .. =>aS
 |_=>aL
def aA.strip:aA->aA
 | .bx _ _ c=>c
 |c=>c
def aA.wrap:aA->aA->aA
 | .bx e z _,c=> .bx e z c
 |_,c=>c
def SO:aA->aA->aA
 | .d a x,.d b y=> .d (.pair a b) (x,y)
 |a,b=> .pr a b
def ofConst:Value->aA
 | .bool b=> .d .bool b
 | .int k n=> .d (.int k) n
 | .string s=> .d .str s
 | .slice aF 0 0=> .cT
 | .pointer aF=> .iQ
 | .nilFunc=> .xu
 | .map aF=> .Dh
 |_=> .undef
def AS.slot(s:AS)(i:Nat):aA:=s.bZ.getD i .undef
def AS.ev(s:AS):bB->aA
 | .tmp t=>s.slot t
 | .const v=>ofConst v
 | .func f=> .fn f .nil
 | .global _=> .undef
def AS.put(s:AS)(dst:Option Tmp)(v:aA):AS:=
 match dst with
 |some t=> {s with bZ:=s.bZ.set t v}
 |none=>s
def AS.bT(s:AS):Id->Option dT
 | .bW k=>s.cH[k]?
 | .new i j=>(s.news.getD i [])[j]?
def AS.ba(s:AS)(id:Id)(e:dT):AS:=
 match id with
 | .bW k=> {s with cH:=s.cH.set k e}
 | .new i j=> {s with news:=s.news.set i ((s.news.getD i []).set j e)}
def AS.dY(s:AS)(i:Nat):Bool:=match s.news[i]? with | some []=>aL | _=>aS
def AS.born(s:AS)(i:Nat)(es:List dT):AS:= {s with news:=s.news.set i es}
def AS.obj(s:AS)(id:Id):Option (Nat×Bool×aA):=
 match s.bT id with
 |some (.obj v f c)=>aj (v,f,c)
 |_=>aF
def aXo:List Nat:=[80]
def afw(P:Program)(nl:Bool):Nat->TypeId->Option Ty
 | 0,_=>aF
 |n+1,T=>
  match P.underlying T with
  |some (.int k)=>aj (.int k)
  |some .bool=>aj .bool
  |some .string=>aj .str
  |some (.slice e)=>match afw P aS n e with | some t=>aj (match nl with | true=> .fx t | false=> .slice t) | none=>aF
  |some (.array k e)=>match afw P nl n e with | some t=>aj (.arr k t) | none=>aF
  |some (.pointer e)=>match afw P aS n e with | some t=>aj (match aXo.contains T with | true=> .gF t | false=> .nK t) | none=>aF
  |some (.struct fs)=>fs.toList.foldr (λf acc=>match afw P nl n f.type,acc with | some a,aj b=>aj (.pair a b) | _,_=>aF) (aj .unit)
  |_=>aF
def asu(P:Program):Nat->TypeId->Option Ty:=afw P aS
def zeroOf(P:Program):Nat->TypeId->Option aA
 | 0,_=>aF
 |n+1,T=>
  match P.underlying T with
  |some (.int k)=>aj (.d (.int k) (0:Int))
  |some .bool=>aj (.d .bool aS)
  |some .string=>aj (.d .str ByteArray.empty)
  |some (.slice _)=>aj .cT
  |some (.pointer _)=>aj .iQ
  |some (.map _ _)=>aj .Dh
  |some (.func _ _ _)=>aj .xu
  |some (.array k e)=>match asu P n e with | some t=>aj (.d (.arr k t) (ae k t.zero)) | none=>aF
  |some (.struct fs)=>fs.toList.foldr (λf acc=>match zeroOf P n f.type,acc with | some a,aj b=>aj (SO a b) | _,_=>aF) (aj (.d .unit ()))
  |_=>aF
def depth:Nat:=12
def fits(P:Program)(T:TypeId)(v:aA):Bool:=
 v.eg && (P.cellsOf T==v.size) &&
 (match P.underlying T with | some (.struct _)=>v.agg | some (.array _ _)=>v.agg | some _=> !v.agg | none=>aS)
def rU:Nat->List Hk
 | 0=> [.fst]
 |n+1=> .snd::rU n
def loc:aA->List Hk->Out (Nat×aA)
 |c,[]=> .ok (0,c)
 |c,.arr::p=>loc c p
 | .pr a _,.fst::p=>loc a p
 | .pr a b,.snd::p=>(loc b p).bind λ(n,v)=> .ok (a.size+n,v)
 | .d (.pair a _) x,.fst::p=>loc (.d a x.1) p
 | .d (.pair a b) x,.snd::p=>(loc (.d b x.2) p).bind λ(n,v)=> .ok (a.size+n,v)
 | .d (.arr _ t) l,.idx i::p=> .uK (decide (i < (l:List t.den).length)) ((loc (.d t (nth t l i)) p).bind λ(n,v)=> .ok (i*t.size+n,v))
 | .vec _ t l,.idx i::p=> .uK (decide (i < l.length)) ((loc (.d t (nth t l i)) p).bind λ(n,v)=> .ok (i*t.size+n,v))
 |_,_::_=> .fail
def AH:aA->List Hk->aA->Out aA
 |c,.arr::p,v=>AH c p v
 | .vec ..,[],_=> .fail
 | .mp ..,[],_=> .fail
 | .rW ..,[],_=> .fail
 | .Ay ..,[],_=> .fail
 |c,[],v=> .guard (v.eg && (c.size==v.size)) (.ok v)
 | .pr a b,.fst::p,v=>(AH a p v).bind λa'=> .ok (SO a' b)
 | .pr a b,.snd::p,v=>(AH b p v).bind λb'=> .ok (SO a b')
 | .d (.pair a b) x,.fst::p,v=>(AH (.d a x.1) p v).bind λa'=> .ok (SO a' (.d b x.2))
 | .d (.pair a b) x,.snd::p,v=>(AH (.d b x.2) p v).bind λb'=> .ok (SO (.d a x.1) b')
 | .d (.arr n t) l,.idx i::p,v=> .uK (decide (i < (l:List t.den).length)) ((AH (.d t (nth t l i)) p v).bind fun
   | .d t' y=>(Out.opt (wa t' t y)).bind λy=> .ok (.d (.arr n t) ((l:List t.den).set i y))
   |_=> .fail)
 | .vec e t l,.idx i::p,v=> .uK (decide (i < l.length)) ((AH (.d t (nth t l i)) p v).bind fun
   | .d t' y=>(Out.opt (wa t' t y)).bind λy=> .ok (.vec e t (l.set i y))
   |_=> .fail)
 |_,_::_,_=> .fail
def AS.row(s:AS)(id:Id)(ver:Nat)(p:List Hk):Out (Nat×(t:Ty)×List t.den):=
 match s.obj id with
 |some (v,_,c)=> .guard (v==ver) ((loc c.strip p).bind fun
  | (n,.d (.arr _ t) l)=> .ok (n,⟨t,l⟩)
  | (n,.vec _ t l)=> .ok (n,⟨t,l⟩)
  |_=> .fail)
 |none=> .fail
def cut{α:Type}(l:List α)(i len:Nat):List α:=(l.drop i).take len
def AS.jd(s:AS):(t:Ty)->aA->Out t.den
 |t,.d t' x=>Out.opt (AM t' t x)
 | .slice _,.cT=> .ok []
 | .fx _,.cT=> .ok aF
 | .nK _,.iQ=> .ok aF
 | .gF _,.iQ=> .ok aF
 | .eP _,.cT=> .ok (aL,[])
 | .slice t,.cg id ver p c i len=>(s.row id ver p).bind λr=> .uK (decide (r.1+i*r.2.1.size=c/\i+len<=r.2.2.length)) (Out.opt (AM (.slice r.2.1) (.slice t) (cut r.2.2 i len)))
 | .fx t,.cg id ver p c i len=>(s.row id ver p).bind λr=> .uK (decide (r.1+i*r.2.1.size=c/\i+len<=r.2.2.length)) (Out.opt (AM (.slice r.2.1) (.fx t) (cut r.2.2 i len)))
 | .pair a b,.pr x y=>(s.jd a x).bind λx=>(s.jd b y).bind λy=> .ok (x,y)
 |_,_=> .fail
def aA.shared:aA->List Id
 | .cg id _ _ _ _ _=> [id]
 | .pr a b=>a.shared++b.shared
 |_=> []
def AS.freeze(s:AS)(id:Id):AS:=
 match s.bT id with
 |some (.obj v _ c)=>s.ba id (.obj v aL c)
 |_=>s
def AS.bj(s:AS):List Id->AS
 |[]=>s
 |id::ids=>(s.freeze id).bj ids
end Go.Ab
namespace Go.Ab
def aFQ{α:Type}(f:α->List Value->Option (List Value)):List α->List Value->Option (List Value)
 |[],cs=>aj cs
 |x::xs,cs=>match f x cs with | some r=>aFQ f xs r | none=>aF
def s6:(t:Ty)->t.den->List Value->Option (List Value)
 | .int k,x,.int k' n::r=>match decide (k=k'),decide (n=(x:Int)) with | true,aL=>aj r | _,_=>aF
 | .bool,x,.bool b::r=>match decide (b=(x:Bool)) with | true=>aj r | false=>aF
 | .str,x,.string s::r=>match decide (s=(x:ByteArray)) with | true=>aj r | false=>aF
 | .slice _,[],.slice aF 0 0::r=>aj r
 | .fx _,aF,.slice aF 0 0::r=>aj r
 | .nK _,aF,.pointer aF::r=>aj r
 | .gF _,aF,.pointer aF::r=>aj r
 | .eP _,(aL,[]),.slice aF 0 0::r=>aj r
 | .unit,_,r=>aj r
 | .pair a b,x,r=>match s6 a x.1 r with | some r'=>s6 b x.2 r' | none=>aF
 | .arr n t,l,r=>match decide ((l:List t.den).length=n) with | true=>aFQ (s6 t) l r | false=>aF
 |_,_,_=>aF
def abb:aA->List Value->Option (List Value)
 | .d t x,r=>s6 t x r
 | .cT,.slice aF 0 0::r=>aj r
 | .iQ,.pointer aF::r=>aj r
 | .xu,.nilFunc::r=>aj r
 | .Dh,.map aF::r=>aj r
 | .pr a b,r=>match abb a r with | some r'=>abb b r' | none=>aF
 |_,_=>aF
def uS:Value->Bool | .agg _=>aL | _=>aS
def ahy(P:Program)(T:TypeId)(z:aA):Bool:=
 match P.info? T with
 |some i=>match i.zero with
  |some zv=>(match abb z zv.cells.toList with | some []=>aL | _=>aS) && (uS zv==z.agg)
  |none=>aS
 |none=>aS
structure ja where
 val:aA
 cH:List dT
 news:List dT
structure Entry where
 params:List (Option Ty)
 X:Type
 run:List aA->List dT->Option X
 out:List aA->List dT->X->ja
 sp:X->Out X:= .ok
 aeN:∀x y,(sp x).eval=aj y->y=x:=by exact λx y h=>(bh h).symm
 rel:Bool:=aS
 set:List aA->List dT->X->Prop:=λ_ _ _=>False
abbrev pb:=FuncId->List aA->Option Entry
def aA.ids:aA->List Id
 | .ptr id _ _ _=> [id]
 | .cg id _ _ _ _ _=> [id]
 | .pr a b=>a.ids++b.ids
 | .cons a b=>a.ids++b.ids
 | .fn _ c=>c.ids
 | .bx _ _ c=>c.ids
 | .cK id _=> [id]
 | .yl id _=> [id]
 | .Ay _ f _=>f.ids
 | .rW id _ _ _ _ _=> [id]
 |_=> []
def dT.ids:dT->List Id
 | .obj _ _ c=>c.ids
 | .dead=> []
def AS.reach(s:AS):Nat->List Id->List Id->List Id
 | 0,_,acc=>acc
 |_+1,[],acc=>acc
 |n+1,id::todo,acc=>if acc.contains id then s.reach n todo acc else s.reach n (((s.bT id).getD .dead).ids++todo) (acc++ [id])
def idxOf(id:Id):List Id->Option Nat
 |[]=>aF
 |x::xs=>if x=id then aj 0 else(idxOf id xs).map (· +1)
def aA.iT(ρ:Id->Nat->Option (Id×Nat)):aA->aA
 | .ptr id ver p n=>match ρ id ver with | some r=> .ptr r.1 r.2 p n | none=> .gone
 | .cg id ver p c i len=>match ρ id ver with | some r=> .cg r.1 r.2 p c i len | none=> .gone
 | .pr a b=> .pr (a.iT ρ) (b.iT ρ)
 | .cons a b=> .cons (a.iT ρ) (b.iT ρ)
 | .fn f c=> .fn f (c.iT ρ)
 | .bx e z c=> .bx e z (c.iT ρ)
 | .cK id ver=>match ρ id ver with | some r=> .cK r.1 r.2 | none=> .gone
 | .yl id ver=>match ρ id ver with | some r=> .yl r.1 r.2 | none=> .gone
 | .Ay k f p=> .Ay k (f.iT ρ) p
 | .rW id _ k v rest cur=> .rW id 0 k v rest cur
 |v=>v
def AS.zX(s:AS)(ids:List Id)(id:Id)(ver:Nat):Option (Id×Nat):=
 match idxOf id ids,s.obj id with
 |some k,aj (v,_,_)=>if v=ver then aj (.bW k,0) else aF
 |_,_=>aF
def AS.nR(s:AS)(ids:List Id)(id:Id):dT:=
 match s.bT id with
 |some (.obj _ fr c)=> .obj 0 fr (c.iT (s.zX ids))
 |_=> .dead
def AS.E7(s:AS)(id:Id):Nat:=match s.obj id with | some (v,_,_)=>v | none=>0
def aOS(ids:List Id)(dst:Nat):Id->Id
 | .bW k=>ids.getD k (.bW 0)
 | .new _ j=> .new dst j
def AS.yn(s:AS)(ids:List Id)(dst:Nat):Id->Nat->Option (Id×Nat)
 | .bW k,v=>match ids[k]? with | some id=>aj (id,s.E7 id+v) | none=>aF
 | .new _ j,v=>aj (.new dst j,v)
def AS.uO(s:AS)(ids:List Id)(dst:Nat)(ver:Nat):dT->dT
 | .obj v fr c=> .obj (ver+v) fr (c.iT (s.yn ids dst))
 | .dead=> .dead
def AS.conv(s:AS):List (Option Ty)->List aA->Out (List aA×List Id)
 |[],[]=> .ok ([],[])
 |some t::ps,v::vs=>(s.jd t v).bind λx=>(s.conv ps vs).bind λr=> .ok (.d t x::r.1,v.shared++r.2)
 |none::ps,v::vs=>(s.conv ps vs).bind λr=> .ok (v::r.1,r.2)
 |_,_=> .fail
def AS.jS(s0:AS)(all:List Id)(dst:Nat)(s:AS):List Id->List dT->AS
 |id::ids,e::es=>AS.jS s0 all dst (s.ba id (s0.uO all dst (s0.E7 id) e)) ids es
 |_,_=>s
def aA.list:aA->List aA
 | .cons a b=>a::b.list
 |_=> []
def AS.made(s:AS)(ids:List Id)(t:Nat):List dT->AS
 |[]=>s
 |e::es=>s.born t ((e::es).map (s.uO ids t 0))
def AS.back(s:AS)(ids:List Id)(dst:Option Tmp)(g:ja):Out AS:=
 match dst with
 |some t=> .guard ((g.cH.length==ids.length) && (g.news.isEmpty || s.dY t))
   (.ok ((AS.jS s ids t (s.made ids t g.news) ids g.cH).put dst (g.val.iT (s.yn ids t))))
 |none=> .guard ((g.cH.length==ids.length) && g.news.isEmpty) (.ok (AS.jS s ids 0 s ids g.cH))
def AS.Xw(s:AS)(vs:List aA):List Id:=s.reach 64 (vs.flatMap aA.ids) []
def aA.qh:aA->Bool
 | .d t _ | .dx t _=>t.qh
 | .pr a b | .cons a b=>a.qh && b.qh
 | .fn _ c=>c.qh
 | .bx _ _ c=>c.qh
 | .vec _ t _=>t.qh
 | .mp k v _=>k.qh && v.qh
 | .rW _ _ k v _ _=>k.qh && v.qh
 | .Ay _ f _=>f.qh
 |_=>aL
def AS.Fl(s:AS)(id:Id):Bool:=match s.obj id with | some (_,aL,.mp ..)=>aS | some (_,_,c)=>c.qh | none=>aL
def AS.enter(s:AS)(en:Entry)(dst:Option Tmp)(ids:List Id)(vs:List aA):Out AS:= .guard ((ids.all λid=>(s.obj id).isSome && s.Fl id) && vs.all aA.qh) (.get (en.run (vs.map (aA.iT (s.zX ids))) (ids.map (s.nR ids))) λx=>(en.sp x).bind λx=>s.back ids dst (en.out (vs.map (aA.iT (s.zX ids))) (ids.map (s.nR ids)) x))
def AS.call(s:AS)(en:Entry)(dst:Option Tmp)(vs:List aA):Out AS:=(s.conv en.params vs).bind λr=>(s.bj r.2).enter en dst ((s.bj r.2).Xw r.1) r.1
def db(op:BinOp)(k:kY)(x y:Int):Int:=
 match op with
 | .and=>k.wrap ((bn k.bits x &&& bn k.bits y).toNat)
 | .or=>k.wrap ((bn k.bits x ||| bn k.bits y).toNat)
 | .xor=>k.wrap ((bn k.bits x^^^bn k.bits y).toNat)
 |_=>k.wrap ((bn k.bits x &&& ~~~bn k.bits y).toNat)
def aGO(op:BinOp)(k:kY)(x:Int)(k':kY)(y:Int):Out aA:=
 match op with
 | .shl=> .uK (decide (0<=y)) (.ok (.d (.int k) (k.wrap (x*2^(min y.toNat k.bits)))))
 | .shr=> .uK (decide (0<=y)) (.ok (.d (.int k) (x.fdiv (2^(min y.toNat k.bits)))))
 |_=> .guard (decide (k=k')) (match op with
  | .add=> .ok (.d (.int k) (k.wrap (x+y)))
  | .sub=> .ok (.d (.int k) (k.wrap (x - y)))
  | .mul=> .ok (.d (.int k) (k.wrap (x*y)))
  | .quo=> .uK (!(decide (y=0))) (.ok (.d (.int k) (k.wrap (x.tdiv y))))
  | .rem=> .uK (!(decide (y=0))) (.ok (.d (.int k) (x.tmod y)))
  | .eql=> .ok (.d .bool (x==y))
  | .neq=> .ok (.d .bool (x !=y))
  | .lss=> .ok (.d .bool (decide (x < y)))
  | .leq=> .ok (.d .bool (decide (x<=y)))
  | .gtr=> .ok (.d .bool (decide (x > y)))
  | .geq=> .ok (.d .bool (decide (x>=y)))
  |op=> .ok (.d (.int k) (db op k x y)))
def aJ5(op:BinOp)(x y:ByteArray):Out aA:=
 match op with
 | .add=> .uK (decide (((x.size+y.size:Nat):Int)<=IntKind.i64.max)) (.ok (.d .str (x++y)))
 | .eql=> .ok (.d .bool (x.toList==y.toList))
 | .neq=> .ok (.d .bool (!(x.toList==y.toList)))
 | .lss=> .ok (.d .bool (Op.bytesLess x.toList y.toList))
 | .geq=> .ok (.d .bool (!(Op.bytesLess x.toList y.toList)))
 |_=> .fail
def P6(P:Program)(T:TypeId)(b:Bool):Bool:=
 match P.underlying T with | some (.struct _)=>b | some (.array _ _)=>b | some _=> !b | none=>aS
def PQ(P:Program)(uK:TypeId->Ty->Bool):List Field->Ty->Nat->Bool
 |[],.unit,_=>aL
 |f::fs,.pair a b,off=> !(f.name== "_") && (f.offset==off) && !(a.size==0) && (P.cellsOf f.type==a.size) && P6 P f.type a.agg && uK f.type a && PQ P uK fs b (off+a.size)
 |_,_,_=>aS
def aNs(P:Program)(u:TypeId):Bool:=match P.info? u with | some i=> !(i.size==0) | none=>aS
def aTj(P:Program)(T:TypeId):Bool:=match P.underlying T with | some (.pointer u)=>aNs P u | _=>aS
def vl(P:Program):Nat->TypeId->Ty->Bool
 | 0,_,_=>aS
 |n+1,T,t=>match P.underlying T,t with
  |some (.int _),.int _=>aL
  |some .bool,.bool=>aL
  |some .string,.str=>aL
  |some (.pointer u),.gF t=>aNs P u && t.ayf
  |some (.array m e),.arr m' t'=>(m==m') && !(t'.size==0) && (P.cellsOf e==t'.size) && P6 P e t'.agg && vl P n e t'
  |some (.struct fs),t=> !P.stoodInHeld T && PQ P (vl P n) fs.toList t 0
  |_,_=>aS
def aTt(P:Program)(T:TypeId):Bool:=match P.underlying T with | some (.pointer u)=>(P.info? u).isSome | _=>aS
def Bk(P:Program)(T:TypeId):aA->aA->Out Bool
 | .d (.gF t) x,.d (.gF t') y=>(Out.opt (wa (.gF t') (.gF t) y)).bind λy=> .guard (aTj P T && t.ayf) (.ok ((Ty.gF t).beq x y))
 | .d t x,.d t' y=>(Out.opt (wa t' t y)).bind λy=> .guard ((t.agg && !P.eqGuardType P.depth T || decide (t= .bool)) && vl P depth T t) (.ok (t.beq x y))
 | .cT,.cT=> .guard (isSl P T) (.ok aL)
 | .d (.slice t) l,.cT=> .guard (isSl P T) (.uK (decide (0 < (l:List t.den).length)) (.ok aS))
 | .cT,.d (.slice t) l=> .guard (isSl P T) (.uK (decide (0 < (l:List t.den).length)) (.ok aS))
 | .cg _ _ _ _ _ len,.cT=> .guard (isSl P T) (.uK (decide (0 < len)) (.ok aS))
 | .cT,.cg _ _ _ _ _ len=> .guard (isSl P T) (.uK (decide (0 < len)) (.ok aS))
 | .iQ,.iQ=> .guard (isPt P T) (.ok aL)
 | .ptr ..,.iQ=> .guard (isPt P T) (.ok aS)
 | .iQ,.ptr .. => .guard (isPt P T) (.ok aS)
 | .d (.nK t) x,.iQ=> .guard (isPt P T) (.ok (x:Option t.den).isNone)
 | .iQ,.d (.nK t) x=> .guard (isPt P T) (.ok (x:Option t.den).isNone)
 | .d (.gF t) x,.iQ=> .guard (isPt P T) (.ok (x:Option (Nat×t.den)).isNone)
 | .iQ,.d (.gF t) x=> .guard (isPt P T) (.ok (x:Option (Nat×t.den)).isNone)
 | .xu,.xu=> .guard (isFn P T) (.ok aL)
 | .fn ..,.xu=> .guard (isFn P T) (.ok aS)
 | .xu,.fn .. => .guard (isFn P T) (.ok aS)
 |_,_=> .fail
where
 isSl (P:Program) (T:TypeId):Bool:=match P.underlying T with | some (.slice _)=>aL | _=>aS
 isPt (P:Program) (T:TypeId):Bool:=match P.underlying T with | some (.pointer _)=>aL | _=>aS
 isFn (P:Program) (T:TypeId):Bool:=match P.underlying T with | some (.func _ _ _)=>aL | _=>aS
def aPC(P:Program)(T:TypeId)(op:BinOp)(x y:aA):Out aA:=
 match x,y with
 | .d (.int k) a,.d (.int k') b=>aGO op k a k' b
 | .d .str a,.d .str b=>aJ5 op a b
 |x,y=>match op with
  | .eql=>(Bk P T x y).bind λb=> .ok (.d .bool b)
  | .neq=>(Bk P T x y).bind λb=> .ok (.d .bool (!b))
  |_=> .fail
def aUi(op:UnOp)(x:aA):Out aA:=
 match op,x with
 | .not,.d .bool b=> .ok (.d .bool (!b))
 | .neg,.d (.int k) n=> .ok (.d (.int k) (k.wrap (0 - n)))
 | .xor,.d (.int k) n=> .ok (.d (.int k) (db .xor k (if k.signed then -1 else k.max) n))
 |_,_=> .fail
def bH(s:ByteArray):List Int:=s.data.toList.map λb=>(b.toNat:Int)
def iY(l:List Int):ByteArray:=⟨(l.map λn=>UInt8.ofNat n.toNat).toArray⟩
def AS.KG(s:AS)(t:Ty)(v:aA):Out t.den:=s.jd t v
def aFo(P:Program)(s:AS)(obj:Bool)(src dst:TypeId)(x:aA):Out aA:=
 match x,P.underlying dst,P.underlying src with
 | .d (.int _) n,aj (.int k),aj _=> .ok (.d (.int k) (k.wrap n))
 | .d .str a,aj .string,aj _=> .ok (.d .str a)
 | .d .str a,aj (.slice e),aj _=>match P.underlying e with
  |some (.int .u8)=>match obj with | true=> .ok (.sb (bH a)) | false=> .ok (.d (.slice (.int .u8)) (bH a))
  |_=> .fail
 |x,aj .string,aj (.slice e)=>match P.underlying e with
  |some (.int .u8)=>(s.KG (.slice (.int .u8)) x).bind λl=> .ok (.d .str (iY l))
  |_=> .fail
 |_,_,_=> .fail
def aFp(P:Program)(src dst:TypeId)(l:List Int):Out aA:=
 match P.underlying dst,P.underlying src with
 |some (.slice e),aj (.slice _)=>match P.underlying e with
  |some (.int .u8)=> .guard (src==dst) (.ok (.d (.slice (.int .u8)) l))
  |_=> .fail
 |_,_=> .fail
def ahU(P:Program)(s:AS)(obj:Bool)(src dst:TypeId)(x:aA):Out aA:=
 match x with
 | .sb l=>aFp P src dst l
 |x=>aFo P s obj src dst x
def an8(P:Program)(s:AS)(d:Option Tmp)(src dst:TypeId)(id:Id)(ver len:Nat):Out AS:=
 match s.obj id,P.underlying dst with
 |some (v,aS,.vec _ (.int .u8) l),aj (.slice e)=>match P.underlying e with
  |some (.int .u8)=> .guard ((v==ver) && (src==dst)) (.uK (decide (0 < len/\len=(l:List Int).length)) (.ok ((s.ba id .dead).put d (.d (.slice (.int .u8)) l))))
  |_=> .fail
 |_,_=> .fail
def ahV(P:Program)(s:AS)(src dst:TypeId)(id:Id)(ver:Nat):Out aA:=
 match s.obj id with
 |some (v,_,.bx e 0 c)=>match P.underlying src,P.underlying dst with
  |some (.pointer t),aj .unsafePointer=> .guard ((v==ver) && !(P.cellsOf t==0) && !(c.size==0)) (.ok (.ptr id ver [] 0))
  |some .unsafePointer,aj (.pointer u)=> .guard ((v==ver) && !(P.cellsOf u==0) && liesAt P P.depth e (c.size / P.cellsOf e) 0 u 1) (.ok (.ptr id ver [] 0))
  |_,_=> .fail
 |_=> .fail
def aRH(P:Program)(s:AS)(T:TypeId)(op:BinOp)(i:Id)(v:Nat)(j:Id)(w:Nat):Out aA:=
 match s.obj i with
 |some (v',_,_)=> .guard (decide (i=j) && (v==w) && (v==v') && aTt P T) (match op with | .eql=> .ok (.d .bool aL) | .neq=> .ok (.d .bool aS) | _=> .fail)
 |none=> .fail
def asf(P:Program)(s:AS)(d:Option Tmp)(T:TypeId)(id:Id)(ver:Nat)(n:Int):Out AS:=
 match s.obj id,P.underlying T with
 |some (v,aS,.vec e (.int .u8) l),aj (.pointer u)=> .guard ((v==ver) && (u==e) && (P.cellsOf e==1))
   (.uK (decide (0 < n/\n<=((l:List Int).length:Int))) (.ok ((s.ba id .dead).put d (.d .str (iY ((l:List Int).take n.toNat))))))
 |_,_=> .fail
def asInt:aA->Out Int
 | .d (.int _) n=> .ok n
 |_=> .fail
def bounds(s:AS)(n:Nat)(lo hi:Option bB):Out (Nat×Nat):=
 (match hi with
  |some h=>(asInt (s.ev h)).bind λh=> .uK (decide (0<=h/\h<=(n:Int))) (.ok h.toNat)
  |none=> .ok n).bind λh=>
 (match lo with
  |some l=>(asInt (s.ev l)).bind λl=> .uK (decide (0<=l/\l<=(h:Int))) (.ok l.toNat)
  |none=> .ok 0).bind λl=> .ok (l,h)
def kI(P:Program)(T:TypeId):Option Nat:=
 match P.underlying T with
 |some (.array _ e)=>match P.cellsOf e with | 0=>aF | z+1=>aj (z+1)
 |some (.slice e)=>match P.cellsOf e with | 0=>aF | z+1=>aj (z+1)
 |_=>aF
def zH(P:Program)(T:TypeId):Option Nat:=
 match P.underlying T with
 |some (.array n _)=>aj n
 |_=>aF
def LS(P:Program)(s:AS)(T:TypeId)(x:aA)(lo hi:Option bB):Out aA:=
 match x with
 | .d .str a=> .guard (match P.underlying T with | some .string=>aL | _=>aS) ((bounds s a.size lo hi).bind λb=> .ok (.d .str (a.extract b.1 b.2)))
 | .d (.slice t) l=> .guard (match kI P T,zH P T with | some z,aF=>z==t.size | _,_=>aS)
   ((bounds s (l:List t.den).length lo hi).bind λb=> .ok (.d (.slice t) (cut l b.1 (b.2 - b.1))))
 | .cT=> .guard (match kI P T,zH P T with | some _,aF=>aL | _,_=>aS) ((bounds s 0 lo hi).bind λ_=> .ok .cT)
 | .cg id ver p c i len=>(s.row id ver p).bind λr=> .guard (match kI P T,zH P T with | some z,aF=>z==r.2.1.size | _,_=>aS)
   ((bounds s len lo hi).bind λb=> .ok (.cg id ver p (c+b.1*r.2.1.size) (i+b.1) (b.2 - b.1)))
 | .ptr id ver p n=>(s.row id ver p).bind λr=> .guard (match kI P T,zH P T with | some z,aj _=>z==r.2.1.size | _,_=>aS)
   (.uK (decide (zH P T=aj r.2.2.length/\r.1=n)) ((bounds s ((zH P T).getD 0) lo hi).bind λb=> .ok (.cg id ver (p++ [.arr]) (n+b.1*r.2.1.size) b.1 (b.2 - b.1))))
 | .dx (.arr n t) l=> .guard (match kI P T,zH P T with | some z,aj m=>(z==t.size) && (m==n) | _,_=>aS)
   ((bounds s n lo hi).bind λb=> .ok (.d (.slice t) (cut l b.1 (b.2 - b.1))))
 |_=> .fail
def aAN:aA->Int
 | .d (.slice t) l=>((l:List t.den).length:Int)
 | .cg _ _ _ _ _ len=>(len:Int)
 | .cT=>0
 |_=> -1
def aa9:Option bB->aA->aA
 |some _,.cg id ver p c i len=> .cg id ver (p++ [.arr]) c i len
 |_,v=>v
def Us(P:Program)(s:AS)(T:TypeId)(x:aA)(lo:Option bB)(h m:bB):Out aA:=(asInt (s.ev h)).bind λhv=>(asInt (s.ev m)).bind λmv=> .uK (decide (0<=hv/\hv<=mv/\mv<=aAN x)) ((LS P s T x lo (aj h)).bind λv=> .ok (aa9 (aj m) v))
def uQ(P:Program)(s:AS)(T:TypeId)(x:aA)(i:Int):Out aA:=
 match x with
 | .d (.slice t) l=> .guard (match kI P T,zH P T with | some z,aF=>z==t.size | _,_=>aS)
   (.uK (decide (0<=i/\i < ((l:List t.den).length:Int))) (.ok (.dx t (nth t l i.toNat))))
 | .dx (.arr n t) l=> .guard (match kI P T,zH P T with | some z,aj m=>(z==t.size) && (m==n) | _,_=>aS)
   (.uK (decide (0<=i/\i < (n:Int))) (.ok (.dx t (nth t l i.toNat))))
 | .cg id ver p c j len=>(s.row id ver p).bind λr=> .guard (match kI P T,zH P T with | some z,aF=>z==r.2.1.size | _,_=>aS)
   (.uK (decide (0<=i/\i < (len:Int))) (.ok (.ptr id ver (p++ [.idx (j+i.toNat)]) (c+i.toNat*r.2.1.size))))
 | .d (.js z) n=> .guard (match kI P T,zH P T with | some z',aF=>z'==z | _,_=>aS)
   (.uK (decide (0<=i/\i < ((n:Nat):Int))) (.ok (.d (.jp z) ())))
 | .ptr id ver p n=> .guard (match kI P T,zH P T with | some _,aj _=>aL | _,_=>aS)
   (.uK (decide (0<=i/\i < (((zH P T).getD 0:Nat):Int))) (.ok (.ptr id ver (p++ [.idx i.toNat]) (n+i.toNat*(kI P T).getD 0))))
 |_=> .fail
def fieldInfo(P:Program)(T:TypeId)(f:Nat):Option (Nat×TypeId):=
 match P.underlying T with
 |some (.struct fs)=>match fs[f]? with | some x=>aj (x.offset,x.type) | none=>aF
 |_=>aF
def partOf:aA->Nat->Option (Nat×aA)
 | .d (.pair a _) x,0=>aj (0,.d a x.1)
 | .d (.pair a b) x,n+1=>match partOf (.d b x.2) n with | some (o,v)=>aj (a.size+o,v) | none=>aF
 | .pr a _,0=>aj (0,a)
 | .pr a b,n+1=>match partOf b n with | some (o,v)=>aj (a.size+o,v) | none=>aF
 |_,_=>aF
def HJ(P:Program)(T:TypeId)(x:aA)(f:Nat):Out aA:=
 match fieldInfo P T f with
 |some (o,ft)=> .guard (!(P.cellsOf ft==0)) (match x with
  | .ptr id ver p n=> .ok (.ptr id ver (p++rU f) (n+o))
  | .d (.jp n) _=> .guard (Nat.ble (o+P.cellsOf ft) n) (.ok (.d (.jp (P.cellsOf ft)) ()))
  | .dx t x=>match partOf (.d t x) f with
   |some (o',.d t' y)=> .guard (o==o') (.ok (.dx t' y))
   |_=> .fail
  | .d (.nK t) x=> .get (x:Option t.den) λx=>match partOf (.d t x) f with
   |some (o',.d t' y)=> .guard (o==o') (.ok (.dx t' y))
   |_=> .fail
  | .d (.gF t) x=> .get (x:Option (Nat×t.den)) λx=>match partOf (.d t x.2) f with
   |some (o',.d t' y)=> .guard (o==o') (.ok (.dx t' y))
   |_=> .fail
  |_=> .fail)
 |none=> .fail
def akB(P:Program)(T:TypeId)(x:aA)(f:Nat):Out aA:=
 match fieldInfo P T f,partOf x f with
 |some (o,ft),aj (o',v)=> .guard ((o==o') && fits P ft v) (.ok v)
 |_,_=> .fail
def akR(P:Program)(T:TypeId)(x:aA)(i:Int):Out aA:=
 match x,P.underlying T with
 | .d (.arr n t) l,aj (.array m e)=> .guard ((n==m) && fits P e (.d t t.zero)) (.uK (decide (0<=i/\i < (n:Int))) (.ok (.d t (nth t l i.toNat))))
 | .d .str a,aj .string=> .uK (decide (0<=i/\i < (a.size:Int))) (.ok (.d (.int .u8) ((a.data.toList.getD i.toNat 0).toNat:Int)))
 |_,_=> .fail
def aQQ:aA->Out aA
 | .d (.fx t) l=> .uK (l:Option (List t.den)).isNone (.ok .cT)
 | .d (.eP t) x=> .uK (!(x:Bool×List t.den).1) (.ok (.d (.slice t) (x:Bool×List t.den).2))
 |v=> .ok v
def SJ(P:Program)(s:AS)(T:TypeId)(x:aA):Out aA:=
 match x with
 | .ptr id ver p n=>match s.obj id with
  |some (v,_,c)=> .guard (v==ver) ((loc c.strip p).bind λr=> .guard (fits P T r.2) (.uK (decide (r.1=n)) (aQQ r.2)))
  |none=> .fail
 | .dx t y=> .guard (fits P T (.d t y)) (.ok (.d t y))
 | .d (.nK t) y=> .get (y:Option t.den) λy=> .guard (fits P T (.d t y)) (.ok (.d t y))
 | .d (.gF t) y=> .get (y:Option (Nat×t.den)) λy=> .guard (fits P T (.d t y.2)) (.ok (.d t y.2))
 |_=> .fail
def LZ(P:Program)(s:AS)(T:TypeId)(x v:aA):Out AS:=
 match x with
 | .ptr id ver p n=>match s.obj id with
  |some (ve,fr,c)=> .guard ((ve==ver) && !fr && fits P T v) ((loc c.strip p).bind λr=> .guard (fits P T r.2) (.uK (decide (r.1=n)) ((AH c.strip p v).bind λc'=> .ok (s.ba id (.obj ve fr (c.wrap c'))))))
  |none=> .fail
 |_=> .fail
def aMy(P:Program)(T:TypeId)(x:aA):Out aA:=
 match P.underlying T,x with
 |some .string,.d .str a=> .ok (.d (.int .i64) (a.size:Int))
 |some (.slice _),.d (.slice t) l=> .ok (.d (.int .i64) ((l:List t.den).length:Int))
 |some (.slice _),.cT=> .ok (.d (.int .i64) (0:Int))
 |some (.slice _),.cg _ _ _ _ _ len=> .ok (.d (.int .i64) (len:Int))
 |some (.slice _),.d (.js _) n=> .ok (.d (.int .i64) ((n:Nat):Int))
 |some (.array n _),_=> .ok (.d (.int .i64) (n:Int))
 |_,_=> .fail
def Kt(P:Program)(s:AS)(t:Ty)(X:TypeId)(x:aA):Out (List t.den):=
 match x with
 | .d .str a=>match P.underlying X with
  |some .string=>Out.opt (wa (.slice (.int .u8)) (.slice t) (bH a))
  |_=> .fail
 |x=>match P.underlying X with
  |some (.slice _)=>s.KG (.slice t) x
  |_=> .fail
def dd(n b:Nat):Bool:=decide (n*b<=140737488355328/\n<=9223372036854775807)
def MS(P:Program)(nl:Bool)(T:TypeId):Option (TypeId×Ty×Nat):=
 match P.underlying T with
 |some (.slice e)=>match afw P nl depth e with
  |some t=>match(P.cellsOf e==t.size) && !(t.size==0) && ahy P e (.d t t.zero) with | true=>aj (e,t,P.bytesOf e) | false=>aF
  |none=>aF
 |_=>aF
def ZV(P:Program)(T:TypeId):Option (TypeId×Ty×Nat):=MS P aS T
def ZW(P:Program)(nl:Bool)(T:TypeId)(v:Option aA):Option (TypeId×Ty×Nat):=
 match MS P nl T with
 |some (e,t,b)=>match v with
  |some (.d u _)=>match !u.qh && ((P.cellsOf e==u.size) && !(u.size==0) && ahy P e (.d u u.zero)) with | true=>aj (e,u,b) | false=>aj (e,t,b)
  |_=>aj (e,t,b)
 |none=>aF
def aUw:aA->Option aA
 | .d (.slice u) _=>aj (.d u u.zero)
 |_=>aF
def aQT(s:AS):List (Nat×bB)->Option aA
 |[(_,x)]=>aj (s.ev x)
 |_=>aF
def akr(P:Program)(T:TypeId):Option (TypeId×Ty×Nat):=
 match Nat.ble 100000 T with
 |true=>MS P aL (T - 100000)
 |false=>MS P aS T
def aoQ(P:Program)(s:AS)(dst:Option Tmp)(T X:TypeId)(n:Int):Out AS:=
 match ZV P T,dst,P.underlying X with
 |some (e,t,b),aj q,aj (.int _)=> .guard (s.dY q) (.uK (decide (0 < n) && dd n.toNat b)
   (.ok ((s.born q [.obj 0 aS (.vec e t (ae n.toNat t.zero))]).put dst (.cg (.new q 0) 0 [] 0 0 n.toNat))))
 |_,_,_=> .fail
def aA1(mx:Bool):List aA->Out aA
 |[.d (.int k) x,.d (.int k') y]=> .guard (decide (k=k')) (.ok (.d (.int k) (match mx with | true=>(if x < y then y else x) | false=>(if y < x then y else x))))
 |[.d (.int k) x,.d (.int k') y,.d (.int k2) z]=> .guard (decide (k=k') && decide (k=k2)) (.ok (.d (.int k) (match mx with | true=>(if(if x < y then y else x) < z then z else(if x < y then y else x)) | false=>(if z < (if y < x then y else x) then z else(if y < x then y else x)))))
 |_=> .fail
def AX(P:Program)(s:AS)(nl dt:Bool)(dst:Option Tmp)(T X:TypeId)(x y:aA):Out AS:=
 match ZW P nl T (aUw y),dst with
 |some (e,t,b),aj q=>(Kt P s t X y).bind λm=>
  match x with
  | .cT=>match dt with
   |true=> .uK (dd m.length b && decide (0 < m.length)) (.ok (s.put dst (.d (.fx t) (aj m))))
   |false=> .guard (s.dY q) (.uK (dd m.length b) (.ok ((s.born q [.obj 0 aS (.vec e t m)]).put dst (.cg (.new q 0) 0 [] 0 0 m.length))))
  | .cg id ver [] 0 0 len=>match s.obj id with
   |some (v,fr,.vec e' t' l)=> .guard ((v==ver) && (e==e')) ((Out.opt (wa (.slice t') (.slice t) l)).bind λl=>
     .uK (decide (len<=l.length)) <| .uK ((!fr) || decide (len=l.length)) (.uK (dd (len+m.length) b)
      (.ok ((s.ba id (.obj (v+1) fr (.vec e t (l.take len++m)))).put dst (.cg id (v+1) [] 0 0 (len+m.length))))))
   |_=> .fail
  |_=> .fail
 |_,_=> .fail
def ahW(P:Program)(s:AS)(dst:Option Tmp)(T X:TypeId)(x y:aA):Out AS:=
 match ZV P T,x with
 |some (_,t,_),.cg id ver [.arr] 0 0 len=>(Kt P s t X y).bind λm=>match s.obj id with
  |some (ve,aS,.d (.arr n t') l)=> .guard ((ve==ver) && (len==n)) ((Out.opt (wa (.slice t') (.slice t) l)).bind λl=> .uK (decide (m.length<=n))
    (.ok ((s.ba id (.obj ve aS (.d (.arr n t) (m++(l:List t.den).drop m.length)))).put dst (.d (.int .i64) (m.length:Int)))))
  |_=> .fail
 |_,_=> .fail
def jz(t:Ty)(s:AS):List (Nat×bB)->List t.den->Out (List t.den×List Id)
 |[],l=> .ok (l,[])
 | (i,x)::ps,l=> .guard (decide (i < l.length)) ((s.jd t (s.ev x)).bind λy=>(jz t s ps (l.set i y)).bind λr=> .ok (r.1,(s.ev x).shared++r.2))
def pM(P:Program)(fs:Array Field)(s:AS):List (Nat×bB)->aA->Out aA
 |[],v=> .ok v
 | (i,x)::ps,v=>match fs[i]?,partOf v i with
  |some f,aj (o,bW)=> .guard ((f.offset==o) && fits P f.type bW && fits P f.type (s.ev x)) ((AH v (rU i) (s.ev x)).bind λv'=>pM P fs s ps v')
  |_,_=> .fail
def JV(P:Program)(s:AS)(dst:Option Tmp)(T:TypeId)(parts:List (Nat×bB)):Out AS:=
 match P.underlying T with
 |some (.struct fs)=>match zeroOf P depth T with
  |some z=> .guard (ahy P T z && z.agg && fs.toList.all λf=>(P.info? f.type).isSome)
    ((pM P fs s parts z).bind λv=> .ok (s.put dst v))
  |none=> .fail
 |some (.array n e)=>match asu P depth e with
  |some t=> .guard ((P.cellsOf e==t.size) && ahy P T (.d (.arr n t) (ae n t.zero))) ((jz t s parts (ae n t.zero)).bind λr=> .ok ((s.bj r.2).put dst (.d (.arr n t) r.1)))
  |none=> .fail
 |_=> .fail
def nP(P:Program)(s:AS)(nl obj:Bool)(dst:Option Tmp)(T:TypeId)(n:Nat)(parts:List (Nat×bB)):Out AS:=
 match ZW P nl T (aQT s parts),dst with
 |some (e,t,_),aj q=> .guard (decide (n*t.size<=16777216)) ((jz t s parts (ae n t.zero)).bind λr=>
   match obj with
   |true=> .guard (s.dY q) (.ok (((s.bj r.2).born q [.obj 0 aS (.vec e t r.1)]).put dst (.cg (.new q 0) 0 [] 0 0 r.1.length)))
   |false=> .ok ((s.bj r.2).put dst (.d (.slice t) r.1)))
 |_,_=> .fail
def uU(P:Program)(s:AS)(dst:Option Tmp)(T:TypeId)(len cap:Int):Out AS:=
 match ZV P T,dst with
 |some (e,t,b),aj q=> .guard (s.dY q) (.uK (decide (0<=len/\len<=cap) && dd cap.toNat b)
   (.ok ((s.born q [.obj 0 aS (.vec e t (ae len.toNat t.zero))]).put dst (.cg (.new q 0) 0 [] 0 0 len.toNat))))
 |_,_=> .fail
def aNK(P:Program)(T:TypeId):Bool:=
 match P.underlying T with
 |some (.struct fs)=>fs.toList.any λf=>match P.underlying f.type with | some (.pointer u)=>decide (u=T) | _=>aS
 |_=>aS
def boxed(P:Program)(T:TypeId)(z:aA):aA:=match aNK P T with | true=> .bx T 0 z | false=>z
def aPD(dt:Bool)(t:Ty)(x:t.den):aA:=match dt with | true=> .d (.nK t) (aj x) | false=> .dx t x
def as3(P:Program)(s:AS)(obj dt:Bool)(dst:Option Tmp)(T:TypeId)(v:aA):Out AS:=
 match dst with
 |some q=>match obj with
  |true=> .guard (s.dY q && fits P T v) (.ok ((s.born q [.obj 0 aS v]).put dst (.ptr (.new q 0) 0 [] 0)))
  |false=>match asu P depth T with
   |some t=> .guard (fits P T (.d t t.zero)) ((s.jd t v).bind λx=> .ok ((s.bj v.shared).put dst (aPD dt t x)))
   |none=> .fail
 |none=> .fail
def Q6(P:Program)(s:AS)(dst:Option Tmp)(T:TypeId)(x:aA):Out AS:=
 match P.underlying T with
 |some (.array n e)=>match asu P depth e with
  |some t=> .guard ((P.cellsOf e==t.size) && !(n==0) && !(t.size==0)) ((s.jd (.slice t) x).bind λl=> .uK (decide (n<=(l:List t.den).length)) (.ok ((s.bj x.shared).put dst (.dx (.arr n t) (l.take n)))))
  |none=> .fail
 |_=> .fail
def v9(s:AS):List bB->aA
 |[]=> .nil
 |x::xs=> .cons (s.ev x) (v9 s xs)
def CN:aA->Bool
 | .cons a b=>a.eg && CN b
 | .nil=>aL
 |_=>aS
def ayy(c a b:aA):Out aA:=
 match c with
 | .d .bool c=>match a,b with
  | .d .bool x,.d .bool y=> .ok (.d .bool (bif c then x else y))
  |a,b=> .br c (.ok a) (.ok b)
 |_=> .fail
def isObj(bu:List Nat):Option Tmp->Bool
 |some q=>bu.any λx=>decide (x=q)
 |none=>aS
def aAD(bu:List Nat)(dst:Option Tmp):Bool:=isObj bu (dst.map (· +100000))
def at1(bu:List Nat)(dst:Option Tmp):Bool:=isObj bu (dst.map (· +200000))
def at2(bu:List Nat)(dst:Option Tmp):Bool:=isObj bu (dst.map (· +300000))
def uZ:(t:Ty)->aA->Out t.den
 |t,.d t' x=>Out.opt (wa t' t x)
 | .slice _,.cT=> .ok []
 | .pair a b,.pr x y=>(uZ a x).bind λx=>(uZ b y).bind λy=> .ok (x,y)
 |_,_=> .fail
def mapOf(P:Program)(T:TypeId):Option (TypeId×TypeId×Ty×Ty):=
 match P.underlying T with
 |some (.map K V)=>match asu P depth K,asu P depth V with
  |some kt,aj vt=>match vl P depth K kt && ahy P V (.d vt vt.zero) with | true=>aj (K,V,kt,vt) | false=>aF
  |_,_=>aF
 |_=>aF
def lY{β:Type}(kt:Ty)(x:kt.den):List (kt.den×β)->Option Nat
 |[]=>aF
 |p::l=>match kt.beq x p.1 with | true=>aj 0 | false=>(lY kt x l).map (· +1)
def bV{β:Type}(kt:Ty)(x:kt.den)(l:List (kt.den×β)):Option β:=(lY kt x l).bind λi=>(l[i]?).map (·.2)
def cY{β:Type}(kt:Ty)(x:kt.den)(v:β)(l:List (kt.den×β)):List (kt.den×β):=
 match lY kt x l with | some i=>l.set i (x,v) | none=>l++ [(x,v)]
def mM{β:Type}(kt:Ty)(x:kt.den)(l:List (kt.den×β)):List (kt.den×β):=
 match lY kt x l with | some i=>l.eraseIdx i | none=>l
def as9(k v k' v':Ty)(l:List (k.den×v.den)):Option (List (k'.den×v'.den)):=if h:k=k'/\v=v' then aj (h.1▸h.2▸l) else aF
def AS.s8(s:AS)(id:Id)(ver:Nat)(kt vt:Ty):Out (List (kt.den×vt.den)):=
 match s.obj id with
 |some (v,_,.mp k' v' l)=> .guard (v==ver) (Out.opt (as9 k' v' kt vt l))
 |_=> .fail
def AS.xm(s:AS)(id:Id):Bool:=match s.obj id with | some (_,fr,_)=> !fr | none=>aS
def aO1(vt:Ty)(ok:Bool)(r:Option vt.den):aA:=
 match ok with
 |true=> .cons (.d vt (r.getD vt.zero)) (.cons (.d .bool r.isSome) .nil)
 |false=> .d vt (r.getD vt.zero)
def Kr(P:Program)(s:AS)(dst:Option Tmp)(T:TypeId):Out AS:=
 match mapOf P T,dst with
 |some (_,_,kt,vt),aj q=> .guard (s.dY q) (.ok ((s.born q [.obj 0 aS (.mp kt vt [])]).put dst (.cK (.new q 0) 0)))
 |_,_=> .fail
def HN(P:Program)(s:AS)(T:TypeId)(m k:aA)(ok:Bool):Out aA:=
 match mapOf P T,m with
 |some (_,_,kt,vt),.cK id ver=>(s.s8 id ver kt vt).bind λl=>(uZ kt k).bind λk=> .ok (aO1 vt ok (bV kt k l))
 |_,_=> .fail
def HS(P:Program)(s:AS)(T:TypeId)(m k v:aA):Out AS:=
 match mapOf P T,m with
 |some (_,_,kt,vt),.cK id ver=>(s.s8 id ver kt vt).bind λl=>(uZ kt k).bind λk=>(uZ vt v).bind λv=> .guard (s.xm id) (.ok (s.ba id (.obj ver aS (.mp kt vt (cY kt k v l)))))
 |_,_=> .fail
def HR(P:Program)(s:AS)(T:TypeId)(m k:aA):Out AS:=
 match mapOf P T,m with
 |some (_,_,kt,vt),.cK id ver=>(s.s8 id ver kt vt).bind λl=>(uZ kt k).bind λk=> .guard (s.xm id) (.ok (s.ba id (.obj ver aS (.mp kt vt (mM kt k l)))))
 |_,_=> .fail
def AS.apl(s:AS)(id:Id)(ver:Nat):Bool:=match s.obj id with | some (v,aL,.mp ..)=>v==ver | _=>aS
def dT.aGQ(q:Id):dT->Bool
 | .obj _ _ (.rW q' ver _ _ _ _)=>decide (q'=q) && !(ver==0)
 |_=>aS
def AS.aee(s:AS)(q:Id):Bool:=s.cH.any (dT.aGQ q) || s.news.any λes=>es.any (dT.aGQ q)
def sj(kt vt:Ty)(l:List (kt.den×vt.den))(j:Nat):kt.den×vt.den:=l.getD j (kt.zero,vt.zero)
def Wa(P:Program)(s:AS)(dst:Option Tmp)(T:TypeId)(m:aA):Out AS:=
 match mapOf P T,m,dst with
 |some (_,_,kt,vt),.cK id ver,aj q=>(s.s8 id ver kt vt).bind λl=> .guard (s.xm id && s.dY q)
   (.ok (((s.ba id (.obj ver aL (.mp kt vt l))).born q [.obj 0 aS (.rW id (ver+1) kt vt l aF)]).put dst (.ptr (.new q 0) 0 [] 0)))
 |_,_,_=> .fail
structure azf where
 i:Id
 v:Nat
 fr:Bool
 q:Id
 vr:Nat
 kt:Ty
 vt:Ty
 rest:List (kt.den×vt.den)
 cur:Option (kt.den×vt.den)
def AS.aGP(s:AS)(x:aA):Option azf:=
 match x with
 | .ptr i ver [] 0=>match s.obj i with
  |some (v,fr,.rW q (vr+1) kt vt rest cur)=>match v==ver,s.apl q vr with
   |true,aL=>aj ⟨i,v,fr,q,vr,kt,vt,rest,cur⟩
   |_,_=>aF
  |_=>aF
 |_=>aF
def ats(s:AS)(x:aA):Out aA:=
 match s.aGP x with
 |some ⟨_,_,_,_,_,kt,vt,_,aj c⟩=> .ok (.cons (.d kt c.1) (.cons (.d vt c.2) .nil))
 |_=> .fail
def AS.drawn(s:AS)(t:azf)(dst:Option Tmp)(j:Nat):AS:=(s.ba t.i (.obj t.v t.fr (.rW t.q (t.vr+1) t.kt t.vt (t.rest.eraseIdx j) (aj (sj t.kt t.vt t.rest j))))).put dst (.cons (.d .bool aL) (.cons (.d t.kt (sj t.kt t.vt t.rest j).1) (.cons (.d t.vt (sj t.kt t.vt t.rest j).2) .nil)))
def AS.unlock(s:AS)(id:Id):AS:=match s.obj id with | some (v,_,c)=>s.ba id (.obj v aS c) | none=>s
def AS.aM0(s:AS)(t:azf)(dst:Option Tmp):Option AS:=
 match(s.ba t.i (.obj t.v t.fr (.rW t.q 0 t.kt t.vt [] aF))).aee t.q with
 |false=>aj (((s.ba t.i (.obj t.v t.fr (.rW t.q 0 t.kt t.vt [] aF))).unlock t.q).put dst (.cons (.d .bool aS) .nil))
 |true=>aF
open Classical in
def aow{R:Type}(n:Nat)(k:Nat->Option R):Option R:=if h:∃r,0 < n/\∀j,j < n->k j=aj r then aj h.choose else aF
open Classical in
def xS{X R:Type}(S:X->Prop)(k:X->Option R):Option R:=if h:∃r,(∃x,S x)/\∀x,S x->k x=aj r then aj h.choose else aF
def aO6{R:Type}(s:AS)(dst:Option Tmp)(t:azf)(k:AS->Option R):Option R:=
 aG (decide (0 < t.rest.length)) (aow t.rest.length λj=>k (s.drawn t dst j)) (match s.aM0 t dst with | some s'=>k s' | none=>aF)
def AS.Z4(s:AS)(ids:List Id):Bool:=ids.all λid=>(s.obj id).isSome && s.Fl id
def AS.aks{R:Type}(s:AS)(en:Entry)(dst:Option Tmp)(ids:List Id)(vs:List aA)(k:AS->Option R):Option R:=xS (en.set (vs.map (aA.iT (s.zX ids))) (ids.map (s.nR ids))) λx=>((en.sp x).bind λx=>s.back ids dst (en.out (vs.map (aA.iT (s.zX ids))) (ids.map (s.nR ids)) x)).run k
def AS.xy{R:Type}(s:AS)(en:Entry)(dst:Option Tmp)(vs:List aA)(k:AS->Option R):Option R:=((s.conv en.params vs).bind λr=> .guard ((s.bj r.2).Z4 ((s.bj r.2).Xw r.1) && r.1.all aA.qh) (.ok r)).run λr=>(s.bj r.2).aks en dst ((s.bj r.2).Xw r.1) r.1 k
def AS.xg(s:AS):(t:Ty)->aA->Out t.den
 |t,.d t' x=> .guard t'.agj.qh (Out.opt (AM t'.agj t (t'.Ky x)))
 | .slice t,.cg id ver p c i len=>(s.row id ver p).bind λr=> .uK (decide (r.1+i*r.2.1.size=c/\i+len<=r.2.2.length)) (.guard r.2.1.agj.qh (Out.opt (AM (.slice r.2.1.agj) (.slice t) (cut (r.2.2.map r.2.1.Ky) i len))))
 | .slice _,.cT=> .ok []
 | .pair a b,.pr x y=>(s.xg a x).bind λx=>(s.xg b y).bind λy=> .ok (x,y)
 |_,_=> .fail
def AS.KH(s:AS):List (Option Ty)->List aA->Out (List aA)
 |[],[]=> .ok []
 |some t::ps,v::vs=>(s.xg t v).bind λx=>(s.KH ps vs).bind λr=> .ok (.d t x::r)
 |_,_=> .fail
def aA.flat:aA->Bool
 | .d (.int _) _=>aL
 | .d .bool _=>aL
 |_=>aS
def AS.AL(s:AS)(en:Entry)(dst:Option Tmp)(vs:List aA):Out AS:=(s.KH en.params vs).bind λvs=> .get (en.run vs []) λx=>(en.sp x).bind λx=> .guard (en.out vs [] x).val.flat (.ok (s.put dst (en.out vs [] x).val))
def AS.aOr{R:Type}(s:AS)(en:Entry)(dst:Option Tmp)(vs:List aA)(k:AS->Option R):Option R:=
 match en.rel with | true=>s.xy en dst vs k | false=>(s.call en dst vs).run k
def yB:Nat:=4294967296
def rO(P:Program)(Γ:pb)(bu:List Nat)(o:Oper)(s:AS):Out AS:=
 match o.op with
 | .move x=> .ok (s.put o.dst (s.ev x))
 | .assign x=> .ok (s.put o.dst (s.ev x))
 | .pick c a b=>(ayy (s.ev c) (s.ev a) (s.ev b)).bind λv=> .ok (s.put o.dst v)
 | .alloc T=>match zeroOf P depth T,o.dst with
  |some z,aj q=> .guard (s.dY q && ahy P T z) (.ok ((s.born q [.obj 0 aS (boxed P T z)]).put o.dst (.ptr (.new q 0) 0 [] 0)))
  |_,_=> .fail
 | .box T x=>as3 P s (isObj bu o.dst) (at1 bu o.dst) o.dst T (s.ev x)
 | .build T parts=>JV P s o.dst T parts.toList
 | .buildSlice T n parts=>nP P s (aAD bu o.dst) (isObj bu o.dst) o.dst T n parts.toList
 | .load T x=>(SJ P s T (s.ev x)).bind λv=> .ok (s.put o.dst v)
 | .store T x v=>(LZ P s T (s.ev x) (s.ev v)).bind λs'=> .ok (s'.put o.dst .undef)
 | .nilCheck x=>match s.ev x with
  | .ptr id v p n=> .ok (s.put o.dst (.ptr id v p n))
  | .dx t y=> .ok (s.put o.dst (.dx t y))
  | .d (.nK t) y=> .get (y:Option t.den) λy=> .ok (s.put o.dst (.dx t y))
  | .d (.gF t) y=> .get (y:Option (Nat×t.den)) λy=> .ok (s.put o.dst (.dx t y.2))
  | .d (.jp n) _=> .ok (s.put o.dst (.d (.jp n) ()))
  | .fn f c=> .ok (s.put o.dst (.fn f c))
  |_=> .fail
 | .binOp op T x y _=>match s.ev x,s.ev y with
  | .ptr i v [] 0,.ptr j w [] 0=>(aRH P s T op i v j w).bind λv=> .ok (s.put o.dst v)
  |_,_=>(aPC P T op (s.ev x) (s.ev y)).bind λv=> .ok (s.put o.dst v)
 | .unOp op _ x=>(aUi op (s.ev x)).bind λv=> .ok (s.put o.dst v)
 | .convert src dst x=>match src==dst,s.ev x with
  |true,.cg id ver [] 0 0 len=>an8 P s o.dst src dst id ver len
  |_,.ptr id ver [] 0=>(ahV P s src dst id ver).bind λv=> .ok (s.put o.dst v)
  |_,_=>(ahU P s (isObj bu o.dst) src dst (s.ev x)).bind λv=> .ok (s.put o.dst v)
 | .sliceToArrayPointer T x=>Q6 P s o.dst T (s.ev x)
 | .makeFunc (.func f) first caps=> .guard (first.isEmpty && CN (v9 s caps.toList)) (.ok (s.put o.dst (.fn f (v9 s caps.toList))))
 | .makeSlice T l c=>(asInt (s.ev l)).bind λl=>(asInt (s.ev c)).bind λc=>uU P s o.dst T l c
 | .slice T x lo hi aF=>(LS P s T (s.ev x) lo hi).bind λv=> .ok (s.put o.dst v)
 | .slice T x lo (aj h) (aj m)=>(Us P s T (s.ev x) lo h m).bind λv=> .ok (s.put o.dst v)
 | .fieldAddr T x f=>(HJ P T (s.ev x) f).bind λv=> .ok (s.put o.dst v)
 | .field T x f=>(akB P T (s.ev x) f).bind λv=> .ok (s.put o.dst v)
 | .indexAddr T x i=>(asInt (s.ev i)).bind λi=>(uQ P s T (s.ev x) i).bind λv=> .ok (s.put o.dst v)
 | .index T x i=>(asInt (s.ev i)).bind λi=>(akR P T (s.ev x) i).bind λv=> .ok (s.put o.dst v)
 | .extract x i=>(Out.opt ((s.ev x).list[i]?)).bind λv=> .ok (s.put o.dst v)
 | .makeMap T aF=>Kr P s o.dst T
 | .lookup T x i ok=>(HN P s T (s.ev x) (s.ev i) ok).bind λv=> .ok (s.put o.dst v)
 | .mapUpdate T m k x=>(HS P s T (s.ev m) (s.ev k) (s.ev x)).bind λs'=> .ok (s'.put o.dst .undef)
 | .range T m=>Wa P s o.dst T (s.ev m)
 | .call c=>match c.callee with
  | .builtin .delete=>match c.args.toList,c.argTypes.toList with
   |[m,k],[T,_]=>(HR P s T (s.ev m) (s.ev k)).bind λs'=> .ok (s'.put o.dst .nil)
   |_,_=> .fail
  | .builtin .copy=>match c.args.toList,c.argTypes.toList with
   |[x,y],[T,X]=>ahW P s o.dst T X (s.ev x) (s.ev y)
   |_,_=> .fail
  | .builtin .len=>match c.args.toList,c.argTypes.toList with
   |[x],[T]=>(aMy P T (s.ev x)).bind λv=> .ok (s.put o.dst v)
   |_,_=> .fail
  | .builtin .append=>match c.args.toList,c.argTypes.toList with
   |[x,y],[T,X]=>match s.ev x,s.ev y with
    | .cT,.d (.int _) n=>aoQ P s o.dst T X n
    |_,_=>AX P s (aAD bu o.dst) (at1 bu o.dst) o.dst T X (s.ev x) (s.ev y)
   |_,_=> .fail
  | .builtin .cap=>match c.args.toList,c.argTypes.toList with
   |[x],[T]=>match s.ev x,P.underlying T with
    | .cT,aj (.slice _)=> .ok (s.put o.dst (.d (.int .i64) (0:Int)))
    |_,_=> .fail
   |_,_=> .fail
  | .builtin .max=>(aA1 aL (c.args.toList.map s.ev)).bind λv=> .ok (s.put o.dst v)
  | .builtin .min=>(aA1 aS (c.args.toList.map s.ev)).bind λv=> .ok (s.put o.dst v)
  | .builtin .unsafeSliceData=>match c.args.toList with
   |[x]=>match s.ev x with
    | .cg id ver [] 0 0 len=> .uK (decide (0 < len)) (.ok (s.put o.dst (.ptr id ver [.idx 0] 0)))
    |_=> .fail
   |_=> .fail
  | .builtin .unsafeString=>match c.args.toList,c.argTypes.toList with
   |[x,y],[T,_]=>match s.ev x,s.ev y with
    | .ptr id ver [.idx 0] 0,.d (.int .i64) n=>asf P s o.dst T id ver n
    |_,_=> .fail
   |_,_=> .fail
  | .value f=>match s.ev f with
   | .fn f caps=>match Γ f (c.args.toList.map s.ev++caps.list) with
    |some en=> .guard (lM f yB) (s.call en o.dst (c.args.toList.map s.ev++caps.list))
    |none=> .fail
   |_=> .fail
  |_=> .fail
 |_=> .fail
def aaf(xs:Array bB):List Nat:=xs.toList.filterMap λ | .tmp t=>aj t | _=>aF
def Gu(ops:Array Oper)(o:Oper):List Nat:=
 match o.guard with
 |some (j,_)=>match(ops[j]?).bind (·.dst) with | some t=> [t] | none=> []
 |none=> []
def afW{R:Type}(P:Program)(Γ:pb)(bu:List Nat)(ops:Array Oper)(o:Oper)(s:AS)(k:AS->Option R):Option R:=
 match o.guard with
 |none=>(rO P Γ bu o s).run k
 |some (j,want)=>match(ops[j]?).bind (·.dst) with
  |some q=>match s.slot q with
   | .d .bool b=>match want with
    |true=>aG b ((rO P Γ bu o (s.put (aj q) (.d .bool aL))).run k) (k ((s.put (aj q) (.d .bool aS)).put o.dst .nil))
    |false=>aG b (k ((s.put (aj q) (.d .bool aL)).put o.dst .nil)) ((rO P Γ bu o (s.put (aj q) (.d .bool aS))).run k)
   | .nil=>k (s.put o.dst .nil)
   |_=>aF
  |none=>aF
def acO(s:AS)(x y:bB):Option Nat:=
 match s.ev x,s.ev y with
 | .d (.slice t) l,.cT=>aj (l:List t.den).length
 | .cT,.d (.slice t) l=>aj (l:List t.den).length
 | .cg _ _ _ _ _ len,.cT=>aj len
 | .cT,.cg _ _ _ _ _ len=>aj len
 |_,_=>aF
open Classical in
def nd{R:Type}(x y:Option R):Option R:=if x=y then x else aF
def YG:Code->List (Array Tmp×Code×Code)
 | .seq a b=>YG a++YG b
 | .cond _ a b=>YG a++YG b
 | .block _ b=>YG b
 | .scope b=>YG b
 | .loop b=>YG b
 | .rangeFunc _ ps as b=> [(ps,as,b)]
 |_=> []
def aVE(fn:Func)(i y:Nat):xO:=match fn.body with
 |some c=>match(YG c)[i]? with
  |some x=>⟨y,x.1,x.2.1,x.2.2⟩
  |none=>⟨y,#[],.skip,.skip⟩
 |none=>⟨y,#[],.skip,.skip⟩
def avT(P:Program)(y:Nat):xO:=match P.funcs[y%yB / 16]? with
 |some fn=>aVE fn (y%16) y
 |none=>⟨y,#[],.skip,.skip⟩
open Classical in
def same{R:Type}(c c':xO)(x:Option R):Option R:=if c=c' then x else aF
def AS.yielded(s:AS)(F:aA)(n:Nat):Option (Id×Nat×xO×aA):=
 match F with
 | .yl id ver=>match s.obj id with
  |some (v,aS,.Ay c f 0)=>match v==ver && n==c.ps.size && Nat.ble yB c.y with
   |true=>aj (id,ver,c,f)
   |false=>aF
  |_=>aF
 |_=>aF
def YF(Γ:pb)(F:aA)(vs:List aA):Option (Entry×List aA):=
 match F with
 | .fn f caps=>match Γ f (vs++caps.list) with
  |some en=>match en.rel && lM f yB with | true=>aj (en,vs++caps.list) | false=>aF
  |none=>aF
 |_=>aF
def aA.akV:aA->Option Nat
 | .d (.jp n) _=>aj n
 |_=>aF
def H9(Γ:pb)(b:Bool)(F:aA)(vs:List aA):Option (Entry×List aA):=
 match b,F with
 |true,.fn f caps=>match Γ f (vs++caps.list) with
  |some en=>match lM f yB with | true=>aj (en,vs++caps.list) | false=>aF
  |none=>aF
 |_,_=>aF
def aP6{R:Type}(P:Program)(Γ:pb)(bu:List Nat)(ops:Array Oper)(o:Oper)(s:AS)(k:AS->Option R):Option R:=
 match o.guard,o.op with
 |none,.binOp .eql T x y _=>match acO s x y,Bk.isSl P T with
  |some n,aL=>aG (decide (0 < n)) (k (s.put o.dst (.d .bool aS))) (nd (k (s.put o.dst (.d .bool aL))) (k (s.put o.dst (.d .bool aS))))
  |_,_=>afW P Γ bu ops o s k
 |none,.binOp .neq T x y _=>match acO s x y,Bk.isSl P T with
  |some n,aL=>aG (decide (0 < n)) (k (s.put o.dst (.d .bool aL))) (nd (k (s.put o.dst (.d .bool aL))) (k (s.put o.dst (.d .bool aS))))
  |_,_=>afW P Γ bu ops o s k
 |none,.range T m=>(Wa P s o.dst T (s.ev m)).run k
 |none,.entry x=>((ats s (s.ev x)).bind λv=> .ok (s.put o.dst v)).run k
 |none,.next x aS=>match s.aGP (s.ev x) with
  |some t=>aO6 s o.dst t k
  |none=>aF
 |none,.call c=>match c.callee with
  | .value F=>match s.yielded (s.ev F) c.args.size with
   |some (id,ver,rc,f)=>match Γ rc.y (.yl id ver::(c.args.toList.map s.ev++f.list)) with
    |some en=>same rc (avT P rc.y) ((s.call en o.dst (.yl id ver::(c.args.toList.map s.ev++f.list))).run k)
    |none=>aF
   |none=>match H9 Γ (at2 bu o.dst) (s.ev F) (c.args.toList.map s.ev) with
    |some (en,vs)=>(s.AL en o.dst vs).run k
    |none=>match YF Γ (s.ev F) (c.args.toList.map s.ev) with
     |some (en,vs)=>s.xy en o.dst vs k
     |none=>afW P Γ bu ops o s k
  |_=>afW P Γ bu ops o s k
 |none,.store T x v=>match(s.ev x).akV with
  |some n=>match fits P T (s.ev v) && (P.cellsOf T==n) with | true=>k (s.put o.dst .undef) | false=>aF
  |none=>afW P Γ bu ops o s k
 |some (j,want),.call c=>match c.callee with
  | .value F=>match H9 Γ (at2 bu o.dst) (s.ev F) (c.args.toList.map s.ev),(ops[j]?).bind (·.dst) with
   |some (en,vs),aj q=>match s.slot q with
    | .d .bool b=>match want with
     |true=>aG b (((s.put (aj q) (.d .bool aL)).AL en o.dst vs).run k) (k ((s.put (aj q) (.d .bool aS)).put o.dst .nil))
     |false=>aG b (k ((s.put (aj q) (.d .bool aL)).put o.dst .nil)) (((s.put (aj q) (.d .bool aS)).AL en o.dst vs).run k)
    | .nil=>k (s.put o.dst .nil)
    |_=>aF
   |_,_=>match YF Γ (s.ev F) (c.args.toList.map s.ev),(ops[j]?).bind (·.dst) with
    |some (en,vs),aj q=>match s.slot q with
     | .d .bool b=>match want with
      |true=>aG b ((s.put (aj q) (.d .bool aL)).xy en o.dst vs k) (k ((s.put (aj q) (.d .bool aS)).put o.dst .nil))
      |false=>aG b (k ((s.put (aj q) (.d .bool aL)).put o.dst .nil)) ((s.put (aj q) (.d .bool aS)).xy en o.dst vs k)
     | .nil=>k (s.put o.dst .nil)
     |_=>aF
    |_,_=>afW P Γ bu ops o s k
  |_=>afW P Γ bu ops o s k
 |_,_=>afW P Γ bu ops o s k
def seen{α R:Type}(l:List α):(List α->R)->R:=List.rec (motive:=λ_=>(List α->R)->R) (λk=>k []) (λx _ ih k=>ih λl'=>k (x::l')) l
theorem Nt{α R:Type}:∀(l:List α) (k:List α->R),seen l k=k l
 |[],_=>rfl
 |_::l,k=>Nt l _
def AS.seen{R:Type}(s:AS)(k:AS->R):R:=Go.Ab.seen s.bZ λl=>k ⟨l,s.cH,s.news⟩
theorem AS.Nt{R:Type}(s:AS)(k:AS->R):s.seen k=k s:=Go.Ab.Nt _ _
def alj(x:bB)(p:Nat):Bool:=match x with | .tmp q=> !(q==p) | _=>aL
def aJL(P:Program)(s:AS)(o1:Oper):List Oper->Option (Out AS)
 |[o2,o3]=>match o1.op,o2.op,o3.op with
  | .nilCheck x,.fieldAddr T (.tmp p) f,.store T' (.tmp r) v=>match s.ev x,s.ev v with
   | .d (.gF t) y,.d (.int k) z=>aj (.get (y:Option (Nat×t.den)) λy=>match fieldInfo P T f,partOf (.d t y.2) f with
    |some (o,ft),aj (o',.d (.int k') u)=> .guard (o1.guard.isNone && o2.guard.isNone && o3.guard.isNone && (o1.dst==aj p) && (o2.dst==aj r) && o3.dst.isNone && alj v p && alj v r && lM p s.bZ.length && lM r s.bZ.length &&
       (o==o') && !(P.cellsOf ft==0) && fits P T' (.d (.int k) z) && decide (k=k'))
      (.uK (decide ((z:Int)=(u:Int))) (.ok ((s.put (aj p) (.dx t y.2)).put (aj r) (.dx (.int k') u))))
    |_,_=> .fail)
   |_,_=>aF
  |_,_,_=>aF
 |_=>aF
def aL3{R:Type}(P:Program)(Γ:pb)(bu:List Nat)(ops:Array Oper):List Oper->AS->(AS->Option R)->Option R
 |[],s,k=>k s
 |o::l,s,k=>match aJL P s o l with
  |some r=>r.run λs'=>s'.seen k
  |none=>aP6 P Γ bu ops o s λs'=>s'.seen λs'=>aL3 P Γ bu ops l s' k
def anL(acc:List Nat)(o:Oper):Nat:=(o.after.toList.filter (Region.binds .any)).foldr (λe m=>Nat.lor (Nat.lor (Nat.pow 2 e.on) (acc.getD e.on 0)) m) 0
def ajO(ops:List Oper):List Nat:=ops.foldl (λacc o=>acc++ [anL acc o]) []
structure D0 where
 dst:Option Tmp
 bZ:List Nat
 rs:List Id
 ws:List Id
def aiA:Op->Bool
 | .move _=>aL
 |_=>aS
def ap4(s:AS)(o:Oper):List Id:=match aiA o.op with | true=> [] | false=>(aaf o.op.operands).flatMap λi=>(s.slot i).ids
def yI:List (Option Ty)->List aA->List Id
 |none::ps,v::vs=>v.ids++yI ps vs
 |some _::ps,_::vs=>yI ps vs
 |_,_=> []
def writes(Γ:pb)(s:AS)(o:Oper):List Id:=
 match o.op with
 | .store _ x _=>(s.ev x).ids
 | .mapUpdate _ m _ _=>(s.ev m).ids
 | .range _ m=>(s.ev m).ids
 | .convert src dst x=>match src==dst with | true=>(s.ev x).ids | false=> []
 | .call c=>match c.callee with
  | .builtin .append=>match c.args.toList with | x::_=>(s.ev x).ids | []=> []
  | .builtin .delete=>match c.args.toList with | x::_=>(s.ev x).ids | []=> []
  | .builtin .copy=>match c.args.toList with | x::_=>(s.ev x).ids | []=> []
  | .builtin .unsafeString=>match c.args.toList with | x::_=>(s.ev x).ids | []=> []
  | .value F=>match s.ev F with
   | .fn f caps=>match Γ f (c.args.toList.map s.ev++caps.list) with
    |some en=>s.reach 64 (yI en.params (c.args.toList.map s.ev++caps.list)) []
    |none=> []
   |_=> []
  |_=> []
 |_=> []
def eN(Γ:pb)(ops:Array Oper)(s:AS)(o:Oper):D0:= {dst:=o.dst,bZ:=aaf o.op.operands++Gu ops o,rs:=ap4 s o++writes Γ s o,ws:=writes Γ s o}
def meets(xs ys:List Id):Bool:=xs.any λx=>ys.any λy=>decide (x=y)
def D0.aST(f g:D0):Bool:=
 match f.dst with
 |some t=>(g.bZ.any λx=>decide (x=t)) || decide (g.dst=aj t)
 |none=>aS
def WA(d:Option Tmp)(ids:List Id):Bool:=
 match d with
 |some q=>ids.any λx=>match x with | .new i _=>decide (i=q) | .bW _=>aS
 |none=>aS
def D0.indep(f g:D0):Bool:= !f.aST g && !g.aST f && !meets f.ws g.rs && !meets g.ws f.rs && !WA f.dst g.rs && !WA g.dst f.rs
def wh{R:Type}(P:Program)(Γ:pb)(bu:List Nat)(ops:Array Oper)(o:Oper)(s:AS)(k:AS->Option R):Option R:=
 match o.guard,o.op with
 |none,.call c=>match c.callee with
  | .value F=>match H9 Γ (at2 bu o.dst) (s.ev F) (c.args.toList.map s.ev) with
   |some (en,vs)=>(s.AL en o.dst vs).run k
   |none=>match YF Γ (s.ev F) (c.args.toList.map s.ev) with
    |some (en,vs)=>s.xy en o.dst vs k
    |none=>afW P Γ bu ops o s k
  |_=>afW P Γ bu ops o s k
 |some (j,want),.call c=>match c.callee with
  | .value F=>match H9 Γ (at2 bu o.dst) (s.ev F) (c.args.toList.map s.ev),(ops[j]?).bind (·.dst) with
   |some (en,vs),aj q=>match s.slot q with
    | .d .bool b=>match want with
     |true=>aG b (((s.put (aj q) (.d .bool aL)).AL en o.dst vs).run k) (k ((s.put (aj q) (.d .bool aS)).put o.dst .nil))
     |false=>aG b (k ((s.put (aj q) (.d .bool aL)).put o.dst .nil)) (((s.put (aj q) (.d .bool aS)).AL en o.dst vs).run k)
    | .nil=>k (s.put o.dst .nil)
    |_=>aF
   |_,_=>match YF Γ (s.ev F) (c.args.toList.map s.ev),(ops[j]?).bind (·.dst) with
    |some (en,vs),aj q=>match s.slot q with
     | .d .bool b=>match want with
      |true=>aG b ((s.put (aj q) (.d .bool aL)).xy en o.dst vs k) (k ((s.put (aj q) (.d .bool aS)).put o.dst .nil))
      |false=>aG b (k ((s.put (aj q) (.d .bool aL)).put o.dst .nil)) ((s.put (aj q) (.d .bool aS)).xy en o.dst vs k)
     | .nil=>k (s.put o.dst .nil)
     |_=>aF
    |_,_=>afW P Γ bu ops o s k
  |_=>afW P Γ bu ops o s k
 |_,_=>afW P Γ bu ops o s k
def aoP{R:Type}(P:Program)(Γ:pb)(bu:List Nat)(ops:Array Oper)(anc:List Nat):Nat->List Oper->List (Nat×D0)->AS->(AS->Option R)->Option R
 |_,[],_,s,k=>k s
 |i,o::l,fs,s,k=>
  match fs.all λx=>(anc.getD i 0).testBit x.1 || x.2.indep (eN Γ ops s o) with
  |true=>wh P Γ bu ops o s λs'=>s'.seen λs'=>aoP P Γ bu ops anc (i+1) l ((i,eN Γ ops s o)::fs) s' k
  |false=>aF
def akq(ops:List Oper):Bool:=ops.zipIdx.all λx=>x.1.after.toList.all λe=> !Region.binds .any e || decide (e.on < x.2)
structure aEu where
 j:Nat
 p:List Hk
 q:Nat
 T:TypeId
structure aTN where
 j:Nat
 p:List Hk
 t:Ty
structure p9 where
 aV:List Nat:=[]
 sites:List Nat:=[]
 axN:List Id:=[]
 data:List (Nat×Ty):=[]
 owns:List aEu:=[]
 PJ:List aTN:=[]
 aRV:List Nat:=[]
 aPJ:List Id:=[]
 aUx:List Nat:=[]
 aVR:List Nat:=[]
 aTP:List (Nat×Nat):=[]
 aXu:Option Nat:=aF
 aHE:List (Nat×List Hk):=[]
 ZN:Bool:=aS
 aW8:List (Id×Ty):=[]
structure du where
 X:Type
 run:AS->Option X
 out:X->Out (Exit×AS)
 set:Option (AS->X->Prop):=aF
structure JL where
 an:p9
 X:Type
 aK0:Exit->AS->Option X
 out:X->Out (Exit×AS)
 ok:∀e s x,aK0 e s=aj x->(out x).eval=aj (e,s)
 rel:Bool:=aS
def Xs{X R:Type}(T:(X->Option R)->Option R)(k:X->Option R):Option R:=T k
structure aSa where
 j:Nat
 t:Ty
 r:Nat
def fy:(t:Ty)->t.den->List Nat
 | .gF t,x=>match(x:Option (Nat×t.den)) with | some p=>p.1::fy t p.2 | none=> []
 | .slice t,x=>(x:List t.den).flatMap (fy t)
 | .arr _ t,x=>(x:List t.den).flatMap (fy t)
 | .pair a b,x=>fy a x.1++fy b x.2
 | .fx t,x=>((x:Option (List t.den)).getD []).flatMap (fy t)
 | .nK t,x=>match(x:Option t.den) with | some y=>fy t y | none=> []
 | .eP t,x=>(x:Bool×List t.den).2.flatMap (fy t)
 | .int _,_ | .bool,_ | .str,_ | .unit,_ | .js _,_ | .jp _,_=> []
def AS.VT(s:AS):aA->List Nat
 | .d t x=>fy t x
 | .cg id _ _ _ _ _=>match s.obj id with | some (_,_,.vec _ t l)=>(l:List t.den).flatMap (fy t) | _=> []
 |_=> []
def aA.aSf:aA->Bool
 | .vec .. | .mp .. | .rW .. | .Ay .. =>aS
 |_=>aL
def aHI{R:Type}(s:AS)(x:aSa)(k:AS->Option R):Option R:=
 match s.slot x.j with
 | .ptr id ver [] 0=>match s.obj id with
  |some (v,aS,c)=>((s.jd x.t c.strip).bind λy=> .guard ((v==ver) && c.aSf && !c.strip.shared.contains id) (.ok y)).run λy=>
    xS (λn=>n ∉ s.VT (s.slot x.r)) λn=>k (((s.bj c.strip.shared).freeze id).put (aj x.j) (.d (.gF x.t) (aj (n,y))))
  |_=>aF
 |_=>aF
def aHJ{R:Type}:List aSa->AS->(AS->Option R)->Option R
 |[],s,k=>k s
 |x::l,s,k=>aHI s x λs'=>aHJ l s' k
structure Ae where
 bu:List Nat:=[]
 loops:Nat->p9:=λ_=> {}
 outs:Nat->Bool->p9:=λ_ _=> {}
 fE:Nat->Option du:=λ_=>aF
 owns:List aEu:=[]
 trim:List Nat:=[]
 res:List (Option Ty):=[]
 PJ:List aTN:=[]
 aHE:List (Nat×List Hk):=[]
 Xs:Nat->Option JL:=λ_=>aF
 aOW:Nat->Option JL:=λ_=>aF
 rf:Nat->Option (Nat×List Nat):=λ_=>aF
 aYu:Nat->Option (List aEu):=λ_=>aF
 nN:Option Nat:=aF
 aTP:List (Nat×Nat):=[]
 VR:Nat->List aSa:=λ_=> []
def dS:Code->Nat
 | .region id _ _=>id
 | .seq a _=>dS a
 | .block _ b=>dS b
 | .loop b=>dS b
 | .scope b=>dS b
 | .cond _ a b=>match dS a with | 0=>dS b | n=>n
 |_=>0
def eT(aV:List Nat):Nat->List aA->List aA
 |_,[]=> []
 |i,v::vs=>(match aV.any (λx=>decide (x=i)) with | true=>v | false=> .undef)::eT aV (i+1) vs
def rX(aV:List Nat):Nat->List (List dT)->List (List dT)
 |_,[]=> []
 |i,v::vs=>(match aV.any (λx=>decide (x=i)) with | true=>v | false=> [])::rX aV (i+1) vs
def aA.head:aA->Option (Id×Nat)
 | .cg id ver [] 0 0 _=>aj (id,ver)
 | .ptr id ver [] 0=>aj (id,ver)
 |_=>aF
def O5(es:List dT)(b q:Nat)(i:Id)(ver:Nat):Option (Id×Nat):=
 match i with
 | .bW k=>aj (.bW k,ver)
 | .new x j=>match decide (x=b) with
  |true=>(match es[j]? with | some (.obj v _ _)=>(match ver==v with | true=>aj (.new q j,0) | false=>aF) | _=>aF)
  |false=>(match decide (x=q) with | true=>aF | false=>aj (.new x j,ver))
def dT.ZK(ρ:Id->Nat->Option (Id×Nat)):dT->dT
 | .obj _ fr c=> .obj 0 fr (c.iT ρ)
 | .dead=> .dead
def aA.aCP(ρ:Id->Nat->Option (Id×Nat))(kp:Id->Bool):aA->aA
 | .rW q ver k v rest cur=>match kp q with | true=> .rW q ver k v rest cur | false=> .rW q 0 k v rest cur
 |c=>c.iT ρ
def dT.agU(ρ:Id->Nat->Option (Id×Nat))(kp:Id->Bool):dT->dT
 | .obj v fr c=> .obj v fr (c.aCP ρ kp)
 | .dead=> .dead
def M3(b q:Nat):Id->Bool | .bW _=>aL | .new x _=> !decide (x=b) && !decide (x=q)
def AS.LC(s:AS)(b q:Nat)(es:List dT):AS:= {bZ:=s.bZ.map (aA.iT (O5 es b q)),cH:=s.cH.map (dT.agU (O5 es b q) (M3 b q)),news:=((s.news.map λes'=>es'.map (dT.agU (O5 es b q) (M3 b q))).set b []).set q (es.map (dT.ZK (O5 es b q)))}
def AS.at(s:AS)(j:Nat):List Hk->Out aA
 |[]=> .ok (s.slot j)
 |p=>match s.slot j with
  | .ptr id ver p0 _=>match s.obj id with
   |some (v,_,c)=> .guard (v==ver) ((loc c.strip (p0++p)).bind λr=> .ok r.2)
   |none=> .fail
  |_=> .fail
def AS.putAt(s:AS)(j:Nat)(v:aA):List Hk->Out AS
 |[]=> .ok (s.put (aj j) v)
 |p=>match s.slot j with
  | .ptr id _ p0 _=>match s.obj id with
   |some (ver,fr,c)=>match c.strip with
    | .vec .. => .fail
    |c1=>(AH c1 (p0++p) v).bind λc'=> .ok (s.ba id (.obj ver fr (c.wrap c')))
   |none=> .fail
  |_=> .fail
def AS.still(s:AS):List Nat->AS
 |[]=>s
 |q::l=>(match s.obj (.new q 0) with | some (v,fr,.rW i ver k t r _)=>s.ba (.new q 0) (.obj v fr (.rW i ver k t r aF)) | _=>s).still l
def aqn(α:Type):Setoid (List α):=⟨List.Perm,List.Perm.refl,List.Perm.symm,List.Perm.trans⟩
def dq{α:Type}(l:List α):List α:=(Quotient.exists_rep (Quotient.mk (aqn α) l)).choose
def AS.canon(s:AS):List Id->AS
 |[]=>s
 |id::l=>(match s.obj id with | some (v,fr,.mp k t r)=>s.ba id (.obj v fr (.mp k t (dq r))) | _=>s).canon l
def Xc(s:AS):List aTN->Out AS
 |[]=> .ok s
 |o::l=>match o.p,s.slot o.j with
  |_::_,.iQ=>Xc s l
  |_,_=>(s.at o.j o.p).bind λu=>(s.jd o.t u).bind λx=>((s.bj u.shared).putAt o.j (.d o.t x) o.p).bind λs'=>Xc s' l
def apY(s:AS):List (Nat×List Hk)->Out AS
 |[]=> .ok s
 |o::l=>(s.at o.1 o.2).bind λu=>match u with
  | .cg id ver [] 0 0 len=>match s.obj id with
   |some (v,aS,.vec _ t r)=> .guard (v==ver) (.uK (decide (len=r.length)) (((s.ba id .dead).putAt o.1 (.d (.eP t) (aL,r)) o.2).bind λs'=>apY s' l))
   |_=> .fail
  |_=>apY s l
def av7(s:AS):List (Id×Ty)->Out AS
 |[]=> .ok s
 |o::l=>match s.obj o.1 with
  |some (v,fr,.vec e t r)=>cond (t==o.2.ZN) (av7 s l) (.guard (o.2.size==t.size) ((Out.opt (AM (.slice t) (.slice o.2) r)).bind λr'=>av7 (s.ba o.1 (.obj v fr (.vec e o.2 r'))) l))
  |_=>av7 s l
def aA.quiet:aA->Bool
 | .Ay .. | .rW .. =>aS
 |_=>aL
def dT.mr:dT->Bool
 | .obj _ _ (.vec _ t l)=>(l:List t.den).all t.mr
 | .obj _ _ c=>c.qh && c.quiet
 | .dead=>aL
def dT.ZN:dT->dT
 | .obj v fr (.vec e t l)=> .obj v fr (.vec e t.ZN ((l:List t.den).map t.AF))
 |e=>e
def aTA(b:Bool)(s:AS):Out AS:=match b with
 |true=> .guard (s.bZ.all aA.qh) (.uK (s.cH.all dT.mr && s.news.all λes=>es.all dT.mr) (.ok ⟨s.bZ,s.cH.map dT.ZN,s.news.map λes=>es.map dT.ZN⟩))
 |false=> .ok s
def JH:(t:Ty)->t.den->Out aA
 | .fx t,x=> .uK (x:Option (List t.den)).isNone (.ok .cT)
 | .pair a b,x=>(JH a x.1).bind λu=>(JH b x.2).bind λv=> .ok (SO u v)
 |t,x=> .ok (.d t x)
def aAg(s:AS):List Nat->Out AS
 |[]=> .ok s
 |j::l=>match s.slot j with
  | .ptr id ver (.idx k::p) n=>match s.obj id with
   |some (v,aS,.vec e t r)=> .guard (v==ver) (.uK (decide (k < r.length)) ((JH t (nth t r k)).bind λu=>
     aAg ((s.ba id (.obj v aS (.bx e t.size (.pr (.d (.arr k t) (r.take k)) (.pr u (.d (.arr (r.drop (k+1)).length t) (r.drop (k+1)))))))).put (aj j) (.ptr id ver (.snd:: .fst::p) n)) l))
   |_=> .fail
  | .ptr _ _ (.snd::_) _=>aAg s l
  |_=> .fail
def aKD(s:AS):List Nat->Out AS
 |[]=> .ok s
 |j::l=>match s.slot j with
  | .ptr id ver (.snd:: .fst::p) n=>match s.obj id with
   |some (v,aS,.bx e z (.pr (.d (.arr k t) l1) (.pr u (.d (.arr _ t') l2))))=> .guard ((v==ver) && (z==t.size) && !(z==0) && !(u.shared.any λi=>decide (i=id)))
     ((Out.opt (wa (.slice t') (.slice t) l2)).bind λl2=>(s.jd t u).bind λx=>
      aKD (((s.bj u.shared).ba id (.obj v aS (.vec e t (l1++x::l2)))).put (aj j) (.ptr id ver (.idx k::p) n)) l)
   |_=> .fail
  |_=> .fail
def yV(P:Program)(s:AS):List aEu->Out AS
 |[]=> .ok s
 |o::l=>match o.p,s.slot o.j with
  |_::_,.iQ=>yV P s l
  |_,_=>(s.at o.j o.p).bind λu=>match u with
  | .cT=>match akr P o.T,s.dY o.q with
   |some (e,t,_),aL=>((s.born o.q [.obj 0 aS (.vec e t [])]).putAt o.j (.cg (.new o.q 0) 0 [] 0 0 0) o.p).bind λs'=>yV P s' l
   |_,_=> .fail
  |u=>match u.head with
   |some (.new b j,ver)=>match s.obj (.new b j),decide (o.q < s.news.length) with
    |some (v,_,_),aL=>match v==ver with
     |true=>yV P (s.LC b o.q (s.news.getD b [])) l
     |false=> .fail
    |_,_=> .fail
   |_=> .fail
def ajE(s:AS):List Nat->Out AS
 |[]=> .ok s
 |j::l=>match s.slot j with
  | .cg id ver [] 0 0 len=>match s.obj id with
   |some (v,aS,.vec e t r)=>match v==ver with
    |true=> .uK (decide (len<=r.length)) (ajE (s.ba id (.obj v aS (.vec e t (r.take len)))) l)
    |false=> .fail
   |_=> .fail
  |_=> .fail
def asData(s:AS):List (Nat×Ty)->Out AS
 |[]=> .ok s
 | (j,t)::l=>(s.jd t (s.slot j)).bind λx=>asData ((s.bj (s.slot j).shared).put (aj j) (.d t x)) l
def aA.there(s:AS):aA->Bool
 | .ptr id _ _ _=>(s.obj id).isSome
 | .cg id _ _ _ _ _=>(s.obj id).isSome
 | .pr a b=>a.there s && b.there s
 | .cons a b=>a.there s && b.there s
 | .fn _ c=>c.there s
 | .bx _ _ c=>c.there s
 | .cK id _=>(s.obj id).isSome
 | .yl id _=>(s.obj id).isSome
 | .Ay _ f _=>f.there s
 | .rW .. =>aS
 |_=>aL
def dT.there(s:AS):dT->Bool
 | .obj _ _ (.rW id _ _ _ _ _)=>(s.obj id).isSome
 | .obj _ _ c=>c.there s
 | .dead=>aL
def SF(an:p9)(s:AS):AS:= {bZ:=eT an.aV 0 s.bZ,cH:=s.cH,news:=rX an.sites 0 s.news}
def AS.anJ(s:AS):Bool:=(s.bZ.all (aA.there s)) && (s.cH.all (dT.there s)) && (s.news.all λes=>es.all (dT.there s))
def v8(k v n:Nat)(i:Id)(ver:Nat):Option (Id×Nat):=match i with
 | .bW j=>match jD j k with
  |true=>match jD ver v with | true=>aj (.bW j,n) | false=>aF
  |false=>aj (.bW j,ver)
 |i=>aj (i,ver)
def Kf(k:Nat):Id->Bool | .bW j=> !jD j k | _=>aL
def dT.avR(ρ:Id->Nat->Option (Id×Nat))(kp:Id->Bool):dT->dT
 | .obj v fr c=> .obj v fr (c.aCP ρ kp)
 | .dead=> .dead
def AS.aE1(s:AS)(k n:Nat):Out AS:=match s.bT (.bW k) with
 |some (.obj v fr c)=> .guard (Nat.ble v n || Nat.ble 1 n) (.ok {bZ:=s.bZ.map (aA.iT (v8 k v n)),cH:=(s.cH.map (dT.avR (v8 k v n) (Kf k))).set k (.obj n fr (c.iT (v8 k v n))),news:=s.news.map λes=>es.map (dT.avR (v8 k v n) (Kf k))})
 |_=> .fail
def ahO(s:AS):List (Nat×Nat)->Out AS
 |[]=> .ok s
 |x::l=>(s.aE1 x.1 x.2).bind λs=>ahO s l
def AS.aSr(s:AS):List Id:=(s.reach 64 (s.bZ.flatMap aA.ids++s.cH.flatMap dT.ids) []).filter λid=>match id with | .new _ _=>aL | .bW _=>aS
def atD(s:AS)(ids:List Id)(q:Nat):Id->Nat->Option (Id×Nat)
 | .bW k,ver=>aj (.bW k,ver)
 | .new x y,ver=>match idxOf (.new x y) ids,s.obj (.new x y) with
  |some j,aj (v,_,_)=>match ver==v with | true=>aj (.new q j,0) | false=>aF
  |_,_=>aF
def dT.aNu(ρ:Id->Nat->Option (Id×Nat)):dT->dT
 | .obj v fr c=> .obj v fr (c.iT ρ)
 | .dead=> .dead
def AS.Gs(s:AS)(ids:List Id)(q:Nat):AS:= {bZ:=s.bZ.map (aA.iT (atD s ids q)),cH:=s.cH.map (dT.aNu (atD s ids q)),news:=(s.news.map λ_=> []).set q (ids.map λid=>((s.bT id).getD .dead).ZK (atD s ids q))}
def AS.akF(s:AS):Option Nat->Out AS
 |none=> .ok s
 |some q=> .guard (lM q s.news.length) (.ok (s.Gs s.aSr q))
def norm(P:Program)(an:p9)(s:AS):Out AS:=(ahO s an.aTP).bind λs=>(aKD (((s.bj an.axN).still an.aRV).canon an.aPJ) an.aVR).bind λs=>(apY s an.aHE).bind λs=>(Xc s an.PJ).bind λs=>(asData s an.data).bind λs=> .guard (SF an s).anJ ((aAg (SF an s) an.aUx).bind λs=>(yV P s an.owns).bind λs=>(av7 s an.aW8).bind λs=>(aTA an.ZN s).bind λs=>s.akF an.aXu)
def ab2{R:Type}(nrm:AS->Out AS)(nrmX:Exit->AS->Out AS)(body:AS->(Exit->AS->Option R)->Option R):Nat->AS->(Exit->AS->Option R)->Option R
 | 0,_,_=>aF
 |n+1,s,k=>body s λe s'=>match e with
  | .normal=>(nrm s').run λs1=>ab2 nrm nrmX body n s1 k
  |e=>(nrmX e s').run (k e)
def apa:Exit->Bool | .ret=>aL | _=>aS
def aKF{R:Type}(le:du)(s:AS)(k:Exit->AS->Option R):Option R:=
 match le.set with
 |none=>al (le.run s) λx=>(le.out x).run λr=>k r.1 r.2
 |some S=>xS (S s) λx=>(le.out x).run λr=>k r.1 r.2
def VB{R:Type}(P:Program)(j:Option JL)(run: {R:Type}->(Exit->AS->Option R)->Option R)(k:Exit->AS->Option R):Option R:=
 match j with
 |none=>run k
 |some j=>match j.rel with
  |true=>Xs (λK:j.X->Option R=>run λe s=>(norm P j.an s).run λs=>al (j.aK0 e s) K) λx=>(j.out x).run λr=>k r.1 r.2
  |false=>al (run λe s=>(norm P j.an s).run (j.aK0 e)) λx=>(j.out x).run λr=>k r.1 r.2
def RG:List aA->aA
 |[]=> .nil
 |a::l=> .cons a (RG l)
def arn(P:Program)(h:FuncId):Bool:=match P.funcs[h]? with
 |some fn=> !(fn.name== "runtime.NumGoroutine") && fn.body.isSome
 |none=>aS
def Iw{R:Type}(P:Program)(Γ:pb)(an:Ae)(s:AS)(f:bB)(ps:Array Tmp)(as b:Code)(k:Exit->AS->Option R):Option R:=
 match an.nN,an.rf (ps.getD 0 0),s.ev f with
 |none,aj (y,aV),.fn h caps=>match arn P h && s.dY (ps.getD 0 0) && lM (ps.getD 0 0) s.bZ.length && lM h yB,Γ h (.yl (.new (ps.getD 0 0) 0) 0::caps.list) with
  |true,aj en=>((s.born (ps.getD 0 0) [.obj 0 aS (.Ay ⟨y,ps,as,b⟩ (RG (eT aV 0 s.bZ)) 0)]).put (aj (ps.getD 0 0)) (.yl (.new (ps.getD 0 0) 0) 0)).aOr en aF (.yl (.new (ps.getD 0 0) 0) 0::caps.list) λs3=>
   match s3.bT (.new (ps.getD 0 0) 0),s3.slot (ps.getD 0 0) with
   |some (.obj 0 aS (.Ay _ _ p)),.yl (.new q' 0) 0=>match jD q' (ps.getD 0 0),p with
    |true,0=>k .normal ((s3.ba (.new (ps.getD 0 0) 0) .dead).put (aj (ps.getD 0 0)) .undef)
    |true,2=>k .ret ((s3.ba (.new (ps.getD 0 0) 0) .dead).put (aj (ps.getD 0 0)) .undef)
    |true,i+3=>k (.exit i) ((s3.ba (.new (ps.getD 0 0) 0) .dead).put (aj (ps.getD 0 0)) .undef)
    |_,_=>aF
   |_,_=>aF
  |_,_=>aF
 |_,_,_=>aF
def ev(P:Program)(Γ:pb)(an:Ae)(N:Nat):Code-> {R:Type}->AS->(Exit->AS->Option R)->Option R
 | .skip,_,s,k=>k .normal s
 | .region id ops draw,_,s,k=>aHJ (an.VR id) s λs=>VB P (an.Xs id) (λk=>match draw with
  |true=>(match akq ops.toList with
   |true=>aoP P Γ an.bu ops (ajO ops.toList) 0 ops.toList [] s λs'=>k .normal s'
   |false=>aF)
  |false=>aL3 P Γ an.bu ops ops.toList s λs'=>k .normal s') k
 | .seq a b,_,s,k=>VB P (an.aOW (dS b)) (λk=>ev P Γ an N a s k) λe s'=>match e with | .normal=>ev P Γ an N b s' k | e=>k e s'
 | .cond c x y,_,s,k=>match s.ev c with
  | .d .bool b=>aG b (ev P Γ an N x s k) (ev P Γ an N y s k)
  |_=>aF
 | .block id b,_,s,k=>ev P Γ an N b s λe s'=>match e with | .exit i=>(match decide (i=id) with | true=>k .normal s' | false=>k (.exit i) s') | e=>k e s'
 | .loop b,_,s,k=>(norm P (an.loops (dS b)) s).run λs1=>match an.fE (dS b) with
  |some le=>aKF le s1 k
  |none=>ab2 (norm P (an.loops (dS b))) (λe=>norm P (an.outs (dS b) (apa e))) (ev P Γ an N b) N s1 k
 | .scope b,_,s,k=>ev P Γ an N b s λe s'=>match e with | .goto _=>aF | e=>k e s'
 | .label _,_,s,k=>k .normal s
 | .exit id,_,s,k=>k (.exit id) s
 | .ret,_,s,k=>k .ret s
 | .rangeFunc f ps as b,_,s,k=>(yV P s ((an.aYu (ps.getD 0 0)).getD [])).run λs=>Iw P Γ an s f ps as b k
 |_,_,_,_=>aF
def avS(P:Program)(s:AS):ResultVar->Out aA
 | .tmp t=> .ok (s.slot t)
 | .cell a T=>SJ P s T (s.slot a)
def amy(P:Program)(s:AS)(r:ResultVar):Option Ty->Out (AS×aA)
 |none=>(avS P s r).bind λv=> .ok (s,v)
 |some t=>(avS P s r).bind λv=>(s.jd t v).bind λx=> .ok (s.bj v.shared,.d t x)
def amz(P:Program)(s:AS):List ResultVar->List (Option Ty)->Out (AS×aA)
 |[],_=> .ok (s,.nil)
 |r::rs,ts=>(amy P s r (ts.headD aF)).bind λx=> .guard x.2.eg ((amz P x.1 rs ts.tail).bind λy=> .ok (y.1,.cons x.2 y.2))
def amA(P:Program)(fn:Func)(ts:List (Option Ty))(s:AS):Out (AS×aA):=
 match fn.results.toList with
 |[r]=>amy P s r (ts.headD aF)
 |rs=>amz P s rs ts
def lV:Code->List Code
 | .seq a b=>lV a++lV b
 | .cond _ a b=>lV a++lV b
 | .block _ b=>lV b
 | .scope b=>lV b
 | .loop b=>b::lV b
 |_=> []
def qJ(fn:Func)(i:Nat):Code:=match fn.body with | some c=>(lV c).getD i .skip | none=> .skip
def Kq(P:Program)(Γ:pb)(an:Ae)(N:Nat)(fn:Func)(i:Nat){R:Type}(s:AS)(kn:AS->Option R)(kx:Exit->AS->Option R):Option R:=
 ev P Γ an N (qJ fn i) s λe s'=>match e with
  | .normal=>(norm P (an.loops (dS (qJ fn i))) s').run kn
  |e=>(norm P (an.outs (dS (qJ fn i)) (apa e)) s').run (kx e)
def SM(P:Program)(Γ:pb)(an:Ae)(N:Nat)(fn:Func)(i:Nat){R:Type}(n:Nat)(s:AS)(k:Exit->AS->Option R):Option R:=ab2 (norm P (an.loops (dS (qJ fn i)))) (λe=>norm P (an.outs (dS (qJ fn i)) (apa e))) (ev P Γ an N (qJ fn i)) n s k
def Id.aOV:Id->Bool | .new _ _=>aL | .bW _=>aS
def AS.Vh(s:AS)(v:aA):List Id:=(s.reach 64 (v.ids++s.cH.flatMap dT.ids) []).filter Id.aOV
def PW(ids:List Id):Id->Nat->Option (Id×Nat)
 | .bW k,v=>aj (.bW k,v)
 |id,v=>match idxOf id ids with | some j=>aj (.new 0 j,v) | none=>aF
def dT.fin(ids:List Id):dT->dT
 | .obj v fr c=> .obj v fr (c.iT (PW ids))
 | .dead=> .dead
def AS.aOw(s:AS)(ids:List Id)(v:aA):ja:= {val:=v.iT (PW ids),cH:=s.cH.map (dT.fin ids),news:=ids.map λid=>((s.bT id).getD .dead).fin ids}
def AS.fin(s:AS)(v:aA):ja:=s.aOw (s.Vh v) v
def start(fn:Func)(args:List aA)(cH:List dT):AS:= {bZ:=args++ae (fn.ntmps - args.length) .undef,cH,news:=ae fn.ntmps []}
def aJk(fn:Func):List Nat:=fn.results.toList.map λr=>match r with | .tmp t=>t | .cell a _=>a
def AS.drop(s:AS)(ks:List Nat):AS:= {bZ:=eT ks 0 s.bZ,cH:=s.cH,news:=s.news}
def finish(P:Program)(an:Ae)(fn:Func)(s:AS):Out ja:=(apY s an.aHE).bind λs=>(Xc s an.PJ).bind λs=>(yV P (s.drop (aJk fn)) an.owns).bind λs=>(ajE s an.trim).bind λs=>(ahO s an.aTP).bind λs=>(amA P fn an.res s).bind λr=> .ok (r.1.fin r.2)
def AS.aJh(s:AS)(q p:Nat):Option AS:=match s.bT (.bW 0) with
 |some (.obj 0 aS (.Ay c f q'))=>(match jD q q' with | true=>aj (s.ba (.bW 0) (.obj 0 aS (.Ay c f p))) | false=>aF)
 |_=>aF
def ayZ:List (Tmp×aA)->List aA->List aA
 |[],l=>l
 |x::xs,l=>ayZ xs (l.set x.1 x.2)
def aRm(ps:List Tmp)(args:List aA)(cH:List dT):AS:= {bZ:=ayZ (ps.zip (args.take ps.length)) (args.drop ps.length),cH,news:=ae (args.drop ps.length).length []}
def aSl:Exit->Option Nat
 | .normal=>aj 0
 | .ret=>aj 2
 | .exit i=>aj (i+3)
 |_=>aF
def aLS(P:Program)(an:Ae)(s:AS)(v:aA):Out ja:=(apY s an.aHE).bind λs=>(Xc s an.PJ).bind λs=>(yV P (s.drop []) an.owns).bind λs=>(ajE s an.trim).bind λs=>(ahO s an.aTP).bind λs=> .ok (s.fin v)
def dT.first:dT->Bool
 | .obj v _ _=>jD v 0
 | .dead=>aL
def aQ2(P:Program)(Γ:pb)(an:Ae)(N:Nat)(c:xO)(args:List aA)(cH:List dT){R:Type}(k:ja->Option R):Option R:=
 match args with
 | .yl (.bW 0) 0::args=>match cH.all dT.first with | false=>aF | true=>ev P Γ an N c.as (aRm c.ps.toList args cH) λe s=>match e with
  | .normal=>al (s.aJh 0 1) λs=>ev P Γ an N c.b s λe s=>al (aSl e) λp=>al (s.aJh 1 p) λs=>(aLS P an s (.d .bool (jD p 0))).run k
  |_=>aF
 |_=>aF
def azn(P:Program)(Γ:pb)(an:Ae)(N:Nat)(fn:Func)(args:List aA)(cH:List dT){R:Type}(k:ja->Option R):Option R:=
 match an.nN with
 |some y=>aQ2 P Γ an N (avT P y) args cH k
 |none=>match fn.body with
 |some c=>match cH.all dT.first with | false=>aF | true=>ev P Γ an N c (start fn args cH) λe s=>match e with
  | .normal=>(finish P an fn s).run k
  | .ret=>(finish P an fn s).run k
  |_=>aF
 |none=>aF
end Go.Ab
namespace Go.Ab
inductive Own where
 |dX
 |id (i:Id)
inductive iU where
 |free
 |own (o:Own) (k:Nat)
 |fresh
 |gD
structure Pl where
 b:Nat
 cap:Nat
structure Env where
 w:World
 g:Nat->iU
 β:Id->Option Pl
 s:Id->Option dT
def ku(g:Nat->iU)(b off:Nat):Prop:=match g b with | .free=>True | .own _ k=>off < k | .fresh | .gD=>False
def Env.has(E:Env)(b off:Nat)(v:Value):Prop:=E.w.cell? ⟨b,off,aF⟩=aj v/\ku E.g b off
def bo{α:Type}(R:List Value->α->Prop):List Value->List α->Prop
 |cs,[]=>cs=[]
 |cs,x::xs=>∃c cs',cs=c++cs'/\R c x/\bo R cs' xs
def xw(E:Env)(a:Option Addr)(vs:List Value):Prop:=∀i v,vs[i]? =aj v->∃b off,a=aj ⟨b,off,aF⟩/\E.has b (off+i) v
def aLh(E:Env)(a:Option Addr)(vs:List Value):Prop:=∀i v,vs[i]? =aj v->∃b off,a=aj ⟨b,off,aF⟩/\E.w.cell? ⟨b,off+i,aF⟩=aj v/\E.g b= .fresh/\∃cur e,E.w.heap[b]? =aj (.cells cur e (0,0))
def asM(E:Env)(b m:Nat):Prop:=E.g b= .gD/\∃cur e,E.w.heap[b]? =aj (.cells cur e (0,0))/\m<=cur.size
def cn(E:Env):(t:Ty)->List Value->t.den->Prop
 | .int k,cs,x=>cs=[.int k x]
 | .bool,cs,x=>cs=[.bool x]
 | .str,cs,x=>cs=[.string x]
 | .slice t,cs,l=>∃a cap vs,cs=[.slice a (l:List t.den).length cap]/\(l:List t.den).length<=cap/\(0 < (l:List t.den).length->a.isSome=aL)/\xw E a vs/\bo (cn E t) vs l
 | .unit,cs,_=>cs=[]
 | .pair a b,cs,x=>∃ca cb,cs=ca++cb/\cn E a ca x.1/\cn E b cb x.2
 | .arr n t,cs,l=>(l:List t.den).length=n/\bo (cn E t) cs l
 | .fx t,cs,x=>((x:Option (List t.den))=aF->cs=[.slice aF 0 0])/\∀l:List t.den,(x:Option (List t.den))=aj l->
   ∃a cap vs,cs=[.slice a l.length cap]/\l.length<=cap/\(0 < l.length->a.isSome=aL)/\xw E a vs/\bo (cn E t) vs l
 | .nK t,cs,x=>((x:Option t.den)=aF->cs=[.pointer aF])/\∀y:t.den,(x:Option t.den)=aj y->
   ∃b off vs,cs=[.pointer (aj ⟨b,off,aF⟩)]/\xw E (aj ⟨b,off,aF⟩) vs/\cn E t vs y
 | .gF t,cs,x=>((x:Option (Nat×t.den))=aF->cs=[.pointer aF])/\∀y:Nat×t.den,(x:Option (Nat×t.den))=aj y->
   ∃ca T vs,cs=[.pointer (aj ⟨y.1,0,aF⟩)]/\(E.g y.1= .free/\E.w.heap[y.1]? =aj (.cells ca T (0,0)))/\xw E (aj ⟨y.1,0,aF⟩) vs/\cn E t vs y.2
 | .eP t,cs,x=>∃a cap vs,cs=[.slice a (x:Bool×List t.den).2.length cap]/\(x:Bool×List t.den).2.length<=cap/\(0 < (x:Bool×List t.den).2.length->a.isSome=aL)/\
   bo (cn E t) vs (x:Bool×List t.den).2/\((x:Bool×List t.den).1=aS->xw E a vs)/\((x:Bool×List t.den).1=aL->aLh E a vs)
 | .js z,cs,n=>∃a cap,cs=[.slice a (n:Nat) cap]/\(n:Nat)<=cap/\(0 < (n:Nat)->∃b off,a=aj ⟨b,off,aF⟩/\asM E b (off+(n:Nat)*z))
 | .jp n,cs,_=>∃b off,cs=[.pointer (aj ⟨b,off,aF⟩)]/\asM E b (off+n)
section
variable {α:Type} {R R':List Value->α->Prop} {z:Nat}
theorem bo.mono(h:∀c x,R c x->R' c x):∀ {cs:List Value} {l:List α},bo R cs l->bo R' cs l
 |_,[],hc=>hc
 |_,_::_,⟨c,cs',e,hx,hr⟩=>⟨c,cs',e,h _ _ hx,bo.mono h hr⟩
theorem bo.length(h:∀c x,R c x->c.length=z):∀ {cs:List Value} {l:List α},bo R cs l->cs.length=l.length*z
 |cs,[],hc=>by grind [bo]
 |_,x::xs,⟨c,cs',e,hx,hr⟩=>by rw[e,ai,h c x hx,bo.length h hr,aE,hP,vf,Nat.add_comm]
theorem bo.all{p:Value->Prop}(h:∀c x,R c x->∀v∈c,p v):∀ {cs:List Value} {l:List α},bo R cs l->∀v∈cs,p v
 |cs,[],hc,v,hv=>by have:cs=[]:=hc;simp[this]at hv
 |_,_::_,⟨c,cs',e,hx,hr⟩,v,hv=>by
  rw[e]at hv;rcases bg.1 hv with hv | hv
  ·exact h _ _ hx v hv
  ·exact bo.all h hr v hv
theorem bo.append:∀ {cs:List Value} {l:List α} {cs':List Value} {l':List α},bo R cs l->bo R cs' l'->bo R (cs++cs') (l++l')
 |cs,[],_,_,hc,h'=>by grind [bo]
 |_,x::xs,_,_,⟨c,cs1,e,hx,hr⟩,h'=>⟨c,cs1++_,by grind,hx,bo.append hr h'⟩
theorem bo.take(h:∀c x,R c x->c.length=z):∀ {cs:List Value} {l:List α} (n:Nat),bo R cs l->bo R (cs.take (n*z)) (l.take n)
 |cs,[],n,hc=>by grind [bo]
 |_,x::xs,0,_=>by simp[bo]
 |_,x::xs,n+1,⟨c,cs',e,hx,hr⟩=>by refine⟨c,cs'.take (n*z),?_,hx,bo.take h n hr⟩;grind [hP]
theorem bo.drop(h:∀c x,R c x->c.length=z):∀ {cs:List Value} {l:List α} (n:Nat),bo R cs l->bo R (cs.drop (n*z)) (l.drop n)
 |cs,[],n,hc=>by grind [bo]
 |_,x::xs,0,hc=>by grind
 |_,x::xs,n+1,⟨c,cs',e,hx,hr⟩=>by rw[e,nb,h c x hx,hP,fv (by grind)];simpa using bo.drop h n hr
theorem bo.get(h:∀c x,R c x->c.length=z){cs:List Value}{l:List α}(hc:bo R cs l)(i:Nat)(hi:i < l.length):R ((cs.drop (i*z)).take z) l[i]:=by have h1:=bo.take h 1 (bo.drop h i hc);rw[aq hi]at h1;simp only[vf,List.take_succ_cons,fe]at h1;obtain⟨c,cs',e,hx,hr⟩:=h1;have:cs'=[]:=hr;rw[e,this,bJ];exact hx
theorem bo.set(h:∀c x,R c x->c.length=z){cs:List Value}{l:List α}(hc:bo R cs l)(i:Nat)(hi:i < l.length){c:List Value}{x:α}(hx:R c x):
  bo R (cs.take (i*z)++c++cs.drop (i*z+c.length)) (l.set i x):=by
 rw[List.set_eq_take_append_cons_drop];have h1:=bo.take h i hc;have h2:=bo.drop h (i+1) hc;grind [bo,bo.append]
theorem bo.one{c:List Value}{x:α}(h:R c x):bo R c [x]:=⟨c,[],by simp,h,rfl⟩
end
theorem cn.size{E:Env}:∀ {t:Ty} {cs:List Value} {x:t.den},cn E t cs x->cs.length=t.size
 | .int _,_,_,h=>by simp only[cn]at h;simp[h,Ty.size]
 | .bool,_,_,h=>by simp only[cn]at h;simp[h,Ty.size]
 | .str,_,_,h=>by simp only[cn]at h;simp[h,Ty.size]
 | .slice t,_,_,h=>by simp only[cn]at h;obtain⟨a,cap,vs,rfl,_⟩:=h;simp[Ty.size]
 | .unit,_,_,h=>by simp only[cn]at h;simp[h,Ty.size]
 | .pair a b,_,_,h=>by simp only[cn]at h;obtain⟨ca,cb,rfl,ha,hb⟩:=h;simp[Ty.size,cn.size ha,cn.size hb]
 | .arr n t,_,_,h=>by simp only[cn]at h;rw[bo.length (λc x hx=>cn.size hx) h.2,h.1,Ty.size]
 | .fx t,_,x,h=>by
  simp only[cn]at h;obtain⟨h1,h2⟩:=h;cases hx:(x:Option (List t.den)) with
  |none=>rw[h1 hx];rfl
  |some l=>obtain⟨a,cap,vs,rfl,_⟩:=h2 l hx;rfl
 | .nK t,_,x,h=>by
  simp only[cn]at h;obtain⟨h1,h2⟩:=h;cases hx:(x:Option t.den) with
  |none=>rw[h1 hx];rfl
  |some l=>obtain⟨b,off,vs,rfl,_⟩:=h2 l hx;rfl
 | .gF t,_,x,h=>by
  simp only[cn]at h;obtain⟨h1,h2⟩:=h;cases hx:(x:Option (Nat×t.den)) with
  |none=>rw[h1 hx];rfl
  |some l=>obtain⟨ca,T,vs,rfl,_⟩:=h2 l hx;rfl
 | .eP t,_,_,h=>by simp only[cn]at h;obtain⟨a,cap,vs,rfl,_⟩:=h;simp[Ty.size]
 | .js _,_,_,h=>by simp only[cn]at h;obtain⟨a,cap,rfl,_⟩:=h;simp[Ty.size]
 | .jp _,_,_,h=>by simp only[cn]at h;obtain⟨b,off,rfl,_⟩:=h;simp[Ty.size]
theorem cn.one{E:Env}:∀ {t:Ty} {cs:List Value} {x:t.den},cn E t cs x->∀c∈cs,c.oneCell'=aL
 | .int _,_,_,h=>by simp only[cn]at h;simp[h,cW]
 | .bool,_,_,h=>by simp only[cn]at h;simp[h,cW]
 | .str,_,_,h=>by simp only[cn]at h;simp[h,cW]
 | .slice t,_,_,h=>by simp only[cn]at h;obtain⟨a,cap,vs,rfl,_⟩:=h;simp[cW]
 | .unit,_,_,h=>by simp only[cn]at h;simp[h]
 | .pair a b,_,_,h=>by
  simp only[cn]at h;obtain⟨ca,cb,rfl,ha,hb⟩:=h;intro c hc;rcases bg.1 hc with hc | hc
  ·exact cn.one ha c hc
  ·exact cn.one hb c hc
 | .arr n t,_,_,h=>by simp only[cn]at h;exact bo.all (λc x hx=>cn.one hx) h.2
 | .fx t,_,x,h=>by
  simp only[cn]at h;obtain⟨h1,h2⟩:=h;cases hx:(x:Option (List t.den)) with
  |none=>rw[h1 hx];simp[cW]
  |some l=>obtain⟨a,cap,vs,rfl,_⟩:=h2 l hx;simp[cW]
 | .nK t,_,x,h=>by
  simp only[cn]at h;obtain⟨h1,h2⟩:=h;cases hx:(x:Option t.den) with
  |none=>rw[h1 hx];simp[cW]
  |some l=>obtain⟨b,off,vs,rfl,_⟩:=h2 l hx;simp[cW]
 | .gF t,_,x,h=>by
  simp only[cn]at h;obtain⟨h1,h2⟩:=h;cases hx:(x:Option (Nat×t.den)) with
  |none=>rw[h1 hx];simp[cW]
  |some l=>obtain⟨ca,T,vs,rfl,_⟩:=h2 l hx;simp[cW]
 | .eP t,_,_,h=>by simp only[cn]at h;obtain⟨a,cap,vs,rfl,_⟩:=h;simp[cW]
 | .js _,_,_,h=>by simp only[cn]at h;obtain⟨a,cap,rfl,_⟩:=h;simp[cW]
 | .jp _,_,_,h=>by simp only[cn]at h;obtain⟨b,off,rfl,_⟩:=h;simp[cW]
theorem cn.aHF{E:Env}{t:Ty}:cn E (.eP t) [.slice aF 0 0] (aL,[]):=by simp only[cn];exact⟨aF,0,[],rfl,aB _,(λh=>absurd h (gQ 0)),rfl,(λhh=>by cases hh),λ_ i v hh=>by simp at hh⟩
structure vd(E E':Env):Prop where
 has:∀b off v,E.has b off v->E'.has b off v
 fz:∀b ob,E.g b= .free->E.w.heap[b]? =aj ob->E'.g b= .free/\E'.w.heap[b]? =aj ob
 jk:∀b cur e,E.g b= .gD->E.w.heap[b]? =aj (.cells cur e (0,0))->E'.g b= .gD/\∃cur',E'.w.heap[b]? =aj (.cells cur' e (0,0))/\cur'.size=cur.size
def Pp(E E':Env):Prop:=∀b ob,E.g b= .fresh->E.w.heap[b]? =aj ob->E'.g b= .fresh/\E'.w.heap[b]? =aj ob
structure zB(E E':Env):Prop extends vd E E' where
 fr:Pp E E'
theorem vd.refl(E:Env):vd E E:=⟨λ_ _ _ h=>h,λ_ _ h h'=>⟨h,h'⟩,λ_ cur _ h h'=>⟨h,cur,h',rfl⟩⟩
theorem vd.trans{E E' E'':Env}(h:vd E E')(h':vd E' E''):vd E E'':=
 ⟨λb o v x=>h'.has b o v (h.has b o v x),λb ob h1 h2=>let⟨h3,h4⟩:=h.fz b ob h1 h2;h'.fz b ob h3 h4,
  λb cur e h1 h2=>let⟨h3,cur',h4,h5⟩:=h.jk b cur e h1 h2;let⟨h6,c2,h7,h8⟩:=h'.jk b cur' e h3 h4;⟨h6,c2,h7,h8.trans h5⟩⟩
theorem zB.refl(E:Env):zB E E:=⟨vd.refl E,λ_ _ h h'=>⟨h,h'⟩⟩
theorem zB.trans{E E' E'':Env}(h:zB E E')(h':zB E' E''):zB E E'':=⟨h.tovd.trans h'.tovd,λb ob h1 h2=>let⟨h3,h4⟩:=h.fr b ob h1 h2;h'.fr b ob h3 h4⟩
theorem xw.mono{E E':Env}(h:vd E E'){a:Option Addr}{vs:List Value}(hr:xw E a vs):xw E' a vs:=
 λi v hv=>let⟨b,off,ha,hh⟩:=hr i v hv;⟨b,off,ha,h.has _ _ _ hh⟩
theorem aLh.mono{E E':Env}(h:Pp E E'){a:Option Addr}{vs:List Value}(hr:aLh E a vs):aLh E' a vs:=λi v hv=>by obtain⟨b,off,ha,hc,hg,cur,e,ho⟩:=hr i v hv;obtain⟨h1,h2⟩:=h b _ hg ho;exact⟨b,off,ha,by simpa only[eL,ho,h2]using hc,h1,cur,e,h2⟩
theorem asM.mono{E E':Env}(h:vd E E'){b m:Nat}(hj:asM E b m):asM E' b m:=
 let⟨hg,cur,e,ho,hm⟩:=hj
 let⟨h1,cur',h2,h3⟩:=h.jk b cur e hg ho
 ⟨h1,cur',e,h2,au⟩
theorem cn.ik{E E':Env}(hm:vd E E'):∀ {t:Ty} (_:t.qh=aL\/Pp E E') {cs:List Value} {x:t.den},cn E t cs x->cn E' t cs x
 | .int _,_,_,_,h=>by simpa only[cn]using h
 | .bool,_,_,_,h=>by simpa only[cn]using h
 | .str,_,_,_,h=>by simpa only[cn]using h
 | .slice t,hn,_,_,h=>by simp only[cn]at h ⊢;obtain⟨a,cap,vs,e,hl,hs,hr,hc⟩:=h;exact⟨a,cap,vs,e,hl,hs,hr.mono hm,hc.mono λc x hx=>cn.ik hm (by simpa only[Ty.qh]using hn) hx⟩
 | .unit,_,_,_,h=>by simpa only[cn]using h
 | .pair a b,hn,_,_,h=>by simp only[cn]at h ⊢;obtain⟨ca,cb,e,ha,hb⟩:=h;simp only[Ty.qh,ax]at hn;exact⟨ca,cb,e,cn.ik hm (hn.imp And.left id) ha,cn.ik hm (hn.imp And.right id) hb⟩
 | .arr n t,hn,_,_,h=>by simp only[cn]at h ⊢;exact⟨h.1,h.2.mono λc x hx=>cn.ik hm (by simpa only[Ty.qh]using hn) hx⟩
 | .fx t,hn,_,_,h=>by simp only[cn]at h ⊢;refine⟨h.1,λl hx=> ?_⟩;obtain⟨a,cap,vs,e,hl,hs,hr,hc⟩:=h.2 l hx;exact⟨a,cap,vs,e,hl,hs,hr.mono hm,hc.mono λc x hx=>cn.ik hm (by simpa only[Ty.qh]using hn) hx⟩
 | .nK t,hn,_,_,h=>by simp only[cn]at h ⊢;refine⟨h.1,λl hx=> ?_⟩;obtain⟨b,off,vs,e,hr,hc⟩:=h.2 l hx;exact⟨b,off,vs,e,hr.mono hm,cn.ik hm (by simpa only[Ty.qh]using hn) hc⟩
 | .gF t,hn,_,_,h=>by simp only[cn]at h ⊢;refine⟨h.1,λl hx=> ?_⟩;obtain⟨ca,T,vs,e,h0,hr,hc⟩:=h.2 l hx;exact⟨ca,T,vs,e,hm.fz _ _ h0.1 h0.2,hr.mono hm,cn.ik hm (by simpa only[Ty.qh]using hn) hc⟩
 | .eP t,hn,_,_,h=>by
  rcases hn with hn | hn
  ·simp[Ty.qh]at hn
  ·simp only[cn]at h ⊢;obtain⟨a,cap,vs,e,hl,hs,hc,h1,h2⟩:=h;exact⟨a,cap,vs,e,hl,hs,hc.mono λc x hx=>cn.ik hm (.inr hn) hx,λhh=>(h1 hh).mono hm,λhh=>(h2 hh).mono hn⟩
 | .js z,_,_,_,h=>by simp only[cn]at h ⊢;obtain⟨a,cap,e,hl,hj⟩:=h;exact⟨a,cap,e,hl,λhn=>let⟨b,off,h1,h2⟩:=hj hn;⟨b,off,h1,h2.mono hm⟩⟩
 | .jp n,_,_,_,h=>by simp only[cn]at h ⊢;obtain⟨b,off,e,hj⟩:=h;exact⟨b,off,e,hj.mono hm⟩
theorem cn.mono{E E':Env}(hm:zB E E'){t:Ty}{cs:List Value}{x:t.den}(h:cn E t cs x):cn E' t cs x:=h.ik hm.tovd (.inr hm.fr)
theorem xw.uniq{E:Env}{a:Option Addr}{vs vs':List Value}(hl:vs.length=vs'.length)(h:xw E a vs)(h':xw E a vs'):vs=vs':=by apply rI hl;intro i h1 h2;obtain⟨b,off,e,hh⟩:=h i vs[i] (cm h1);obtain⟨b',off',e',hh'⟩:=h' i vs'[i] (cm h2);rw[e]at e';obtain⟨rfl,rfl⟩:=e';exact bh (hh.1.symm.trans hh'.1)
theorem bo.uniq{α:Type}{R:List Value->α->Prop}{z:Nat}(hs:∀c x,R c x->c.length=z)(hR:∀c x y,R c x->R c y->x=y):∀ {cs:List Value} {l l':List α},l.length=l'.length->bo R cs l->bo R cs l'->l=l'
 |_,[],[],_,_,_=>rfl
 |_,[],_::_,hl,_,_=>by simp at hl
 |_,_::_,[],hl,_,_=>by simp at hl
 |cs,x::xs,y::ys,hl,⟨c,cs1,e,hx,hr⟩,⟨d,cs2,e',hy,hr'⟩=>by rw[e]at e';obtain⟨rfl,rfl⟩:=List.append_inj e' (by rw[hs _ _ hx,hs _ _ hy]);rw[hR _ _ _ hx hy,bo.uniq hs hR (by simpa using hl) hr hr']
theorem cn.uniq{E:Env}:∀ {t:Ty} {cs:List Value} {x y:t.den},t.ayf=aL->cn E t cs x->cn E t cs y->x=y
 | .int _,_,_,_,_,h,h'=>by simp only[cn]at h h';rw[h]at h';simpa using h'
 | .bool,_,_,_,_,h,h'=>by simp only[cn]at h h';rw[h]at h';simpa using h'
 | .str,_,_,_,_,h,h'=>by simp only[cn]at h h';rw[h]at h';simpa using h'
 | .slice t,_,x,y,hn,h,h'=>by
  simp only[cn]at h h';obtain⟨a,cap,vs,e,_,_,hr,hc⟩:=h;obtain⟨a',cap',vs',e',_,_,hr',hc'⟩:=h';rw[e]at e';simp only[ct,Value.slice.injEq,gR]at e';obtain⟨rfl,hl,_⟩:=e';have hl:(x:List t.den).length=(y:List t.den).length:=by exact_mod_cast hl
  have h1:=bo.length (λc x hx=>cn.size hx) hc;have h2:=bo.length (λc x hx=>cn.size hx) hc';obtain rfl:=hr.uniq (by rw[h1,h2,hl]) hr';exact bo.uniq (λc x hx=>cn.size hx) (λc x y hx hy=>cn.uniq (by simpa only[Ty.ayf]using hn) hx hy) hl hc hc'
 | .unit,_,_,_,_,_,_=>rfl
 | .pair a b,_,x,y,hn,h,h'=>by simp only[Ty.ayf,ax]at hn;simp only[cn]at h h';obtain⟨ca,cb,e,ha,hb⟩:=h;obtain⟨ca',cb',e',ha',hb'⟩:=h';rw[e]at e';obtain⟨rfl,rfl⟩:=List.append_inj e' (by rw[cn.size ha,cn.size ha']);exact Prod.ext (cn.uniq hn.1 ha ha') (cn.uniq hn.2 hb hb')
 | .arr n t,_,x,y,hn,h,h'=>by simp only[cn]at h h';exact bo.uniq (λc x hx=>cn.size hx) (λc x y hx hy=>cn.uniq (by simpa only[Ty.ayf]using hn) hx hy) (h.1.trans h'.1.symm) h.2 h'.2
 | .fx _,_,_,_,hn,_,_ | .eP _,_,_,_,hn,_,_ | .js _,_,_,_,hn,_,_ | .jp _,_,_,_,hn,_,_=>by simp[Ty.ayf]at hn
 | .nK t,_,x,y,hn,h,h'=>by
  simp only[cn]at h h';cases hx:(x:Option t.den) with
  |none=>cases hy:(y:Option t.den) with
   |none=>rfl
   |some v=>
    obtain⟨b,off,vs,e,_⟩:=h'.2 v hy;rw[h.1 hx]at e;simp at e
  |some u=>cases hy:(y:Option t.den) with
   |none=>
    obtain⟨b,off,vs,e,_⟩:=h.2 u hx;rw[h'.1 hy]at e;simp at e
   |some v=>
    obtain⟨b,off,vs,e,hr,hc⟩:=h.2 u hx;obtain⟨b',off',vs',e',hr',hc'⟩:=h'.2 v hy;rw[e]at e';simp only[ct,Value.pointer.injEq,bf,Addr.mk.injEq,gR]at e';obtain⟨rfl,rfl⟩:=e';obtain rfl:=hr.uniq (by rw[cn.size hc,cn.size hc']) hr';rw[cn.uniq (by simpa only[Ty.ayf]using hn) hc hc']
 | .gF t,_,x,y,hn,h,h'=>by
  simp only[cn]at h h';cases hx:(x:Option (Nat×t.den)) with
  |none=>cases hy:(y:Option (Nat×t.den)) with
   |none=>rfl
   |some v=>
    obtain⟨ca,T,vs,e,_⟩:=h'.2 v hy;rw[h.1 hx]at e;simp at e
  |some u=>cases hy:(y:Option (Nat×t.den)) with
   |none=>
    obtain⟨ca,T,vs,e,_⟩:=h.2 u hx;rw[h'.1 hy]at e;simp at e
   |some v=>
    obtain⟨ca,T,vs,e,_,hr,hc⟩:=h.2 u hx;obtain⟨ca',T',vs',e',_,hr',hc'⟩:=h'.2 v hy;rw[e]at e';simp only[ct,Value.pointer.injEq,bf,Addr.mk.injEq,gR]at e';rw[<-e']at hr';obtain rfl:=hr.uniq (by rw[cn.size hc,cn.size hc']) hr';exact congrArg aj (Prod.ext e' (cn.uniq (by simpa only[Ty.ayf]using hn) hc hc'))
def Env.cur(E:Env)(id:Id)(ver:Nat):Prop:=∃fr c,E.s id=aj (.obj ver fr c)
def Env.Ct(E:Env)(id:Id)(ver:Nat):Prop:=E.s id≠aF/\∀v fr c,E.s id=aj (.obj v fr c)->ver<=v
def fW(agg:Bool)(cs:List Value)(v:Value):Prop:=match agg with | true=>v= .agg cs.toArray | false=>cs=[v]
mutual
def V(E:Env):aA->List Value->Prop
 | .undef,_=>False
 | .gone,cs=>∃v,cs=[v]/\v.oneCell'=aL
 | .cT,cs=>cs=[.slice aF 0 0]
 | .iQ,cs=>cs=[.pointer aF]
 | .xu,cs=>cs=[.nilFunc]
 | .Dh,cs=>cs=[.map aF]
 | .sb l,cs=>∃(b cap:Nat) (arr:Array Value) (e:TypeId),cs=[.slice (aj ⟨b,0,aF⟩) l.length cap]/\l.length<=cap/\E.g b= .free/\E.w.heap[b]? =aj (.cells arr e (arr.size,arr.size+1))/\∀(j:Nat) (v:Value),(l.map (Value.int .u8))[j]? =aj v->arr[j]? =aj v
 | .d t x,cs=>cn E t cs x
 | .pr a b,cs=>∃ca cb,cs=ca++cb/\V E a ca/\V E b cb
 | .ptr id ver _ n,cs=>∃a,cs=[.pointer (aj a)]/\E.Ct id ver/\(E.cur id ver->∃pl,E.β id=aj pl/\a=⟨pl.b,n,aF⟩)
 | .dx t x,cs=>∃b off vs,cs=[.pointer (aj ⟨b,off,aF⟩)]/\xw E (aj ⟨b,off,aF⟩) vs/\cn E t vs x
 | .cg id ver p c i len,cs=>∃a cap,cs=[.slice a len cap]/\len<=cap/\(0 < len->a.isSome=aL)/\E.Ct id ver/\
   (E.cur id ver->match E.β id with
    |some pl=>(0 < len\/i=0->a=aj ⟨pl.b,c,aF⟩)/\(p=[]->i=0->cap=pl.cap)
    |none=>a=aF/\len=0/\cap=0)
 | .fn f c,cs=>∃vs,cs=[.func (.func f) #[] vs.toArray]/\VC E c vs
 | .cons _ _,_=>False
 | .nil,_=>False
 | .vec ..,_=>False
 | .bx ..,_=>False
 | .yl id ver,cs=>∃l,cs=[.func (.yield l) #[] #[]]/\E.Ct id ver/\(E.cur id ver->∃pl,E.β id=aj pl/\l=pl.b)
 | .Ay ..,_=>False
 | .cK id ver,cs=>∃b,cs=[.map (aj b)]/\E.Ct id ver/\(E.cur id ver->∃pl,E.β id=aj pl/\b=pl.b)
 | .mp ..,_ | .rW ..,_=>False
def VC(E:Env):aA->List Value->Prop
 | .nil,vs=>vs=[]
 | .cons a b,vs=>∃v vs' cs,vs=v::vs'/\V E a cs/\fW a.agg cs v/\VC E b vs'
 |_,_=>False
end
structure cM(E E':Env):Prop where
 mem:zB E E'
 Ct:∀id ver,E.Ct id ver->E'.Ct id ver
 cur:∀id ver,E.Ct id ver->E'.cur id ver->E.cur id ver/\E'.β id=E.β id
theorem cM.refl(E:Env):cM E E:=⟨zB.refl E,λ_ _ h=>h,λ_ _ _ h=>⟨h,rfl⟩⟩
theorem cM.trans{E E' E'':Env}(h:cM E E')(h':cM E' E''):cM E E'':=
 ⟨h.mem.trans h'.mem,λid v b=>h'.Ct id v (h.Ct id v b),λid v b c=>
  let⟨c1,e1⟩:=h'.cur id v (h.Ct id v b) c
  let⟨c2,e2⟩:=h.cur id v b c1
  ⟨c2,e1.trans e2⟩⟩
structure CI(E E':Env):Prop where
 mem:vd E E'
 Ct:∀id ver,E.Ct id ver->E'.Ct id ver
 cur:∀id ver,E.Ct id ver->E'.cur id ver->E.cur id ver/\E'.β id=E.β id
theorem CI.refl(E:Env):CI E E:=⟨vd.refl E,λ_ _ h=>h,λ_ _ _ h=>⟨h,rfl⟩⟩
theorem CI.trans{E E' E'':Env}(h:CI E E')(h':CI E' E''):CI E E'':=
 ⟨h.mem.trans h'.mem,λid v b=>h'.Ct id v (h.Ct id v b),λid v b c=>
  let⟨c1,e1⟩:=h'.cur id v (h.Ct id v b) c
  let⟨c2,e2⟩:=h.cur id v b c1
  ⟨c2,e1.trans e2⟩⟩
theorem cM.l0{E E':Env}(h:cM E E'):CI E E':=⟨h.mem.tovd,h.Ct,h.cur⟩
mutual
theorem V.ik{E E':Env}(h:CI E E'):∀ {a:aA} (_:a.qh=aL\/Pp E E') {cs:List Value},V E a cs->V E' a cs
 | .undef,hn,_,hv=>by simp only[V]at hv
 | .gone,hn,_,hv=>by simpa only[V]using hv
 | .cT,hn,_,hv=>by simpa only[V]using hv
 | .iQ,hn,_,hv=>by simpa only[V]using hv
 | .xu,hn,_,hv=>by simpa only[V]using hv
 | .Ay ..,hn,_,hv=>by simp only[V]at hv
 | .Dh,hn,_,hv=>by simpa only[V]using hv
 | .sb l,hn,_,hv=>by simp only[V]at hv ⊢;obtain⟨b,cap,arr,e,h1,h2,h3,h4,h5⟩:=hv;obtain⟨h6,h7⟩:=h.mem.fz b _ h3 h4;exact⟨b,cap,arr,e,h1,h2,h6,h7,h5⟩
 | .d t x,hn,_,hv=>by simp only[V]at hv ⊢;exact hv.ik h.mem (by simpa only[aA.qh]using hn)
 | .pr a b,hn,_,hv=>by simp only[V]at hv ⊢;obtain⟨ca,cb,e,ha,hb⟩:=hv;simp only[aA.qh,ax]at hn;exact⟨ca,cb,e,V.ik h (hn.imp And.left id) ha,V.ik h (hn.imp And.right id) hb⟩
 | .ptr id ver p n,hn,_,hv=>by simp only[V]at hv ⊢;obtain⟨a,e,hb,hc⟩:=hv;refine⟨a,e,h.Ct _ _ hb,λc=> ?_⟩;obtain⟨c1,e1⟩:=h.cur _ _ hb c;rw[e1];exact hc c1
 | .dx t x,hn,_,hv=>by simp only[V]at hv ⊢;obtain⟨b,off,vs,e,hr,hx⟩:=hv;exact⟨b,off,vs,e,hr.mono h.mem,hx.ik h.mem (by simpa only[aA.qh]using hn)⟩
 | .cg id ver p c i len,hn,_,hv=>by simp only[V]at hv ⊢;obtain⟨a,cap,e,hl,hs,hb,hc⟩:=hv;refine⟨a,cap,e,hl,hs,h.Ct _ _ hb,λc=> ?_⟩;obtain⟨c1,e1⟩:=h.cur _ _ hb c;rw[e1];exact hc c1
 | .fn f c,hn,_,hv=>by simp only[V]at hv ⊢;obtain⟨vs,e,hc⟩:=hv;exact⟨vs,e,VC.ik h (by simpa only[aA.qh]using hn) hc⟩
 | .cons _ _,hn,_,hv=>by simp only[V]at hv
 | .nil,hn,_,hv=>by simp only[V]at hv
 | .vec ..,hn,_,hv=>by simp only[V]at hv
 | .bx ..,hn,_,hv=>by simp only[V]at hv
 | .yl id ver,hn,_,hv=>by simp only[V]at hv ⊢;obtain⟨b,e,hb,hc⟩:=hv;refine⟨b,e,h.Ct _ _ hb,λc=> ?_⟩;obtain⟨c1,e1⟩:=h.cur _ _ hb c;rw[e1];exact hc c1
 | .cK id ver,hn,_,hv=>by simp only[V]at hv ⊢;obtain⟨b,e,hb,hc⟩:=hv;refine⟨b,e,h.Ct _ _ hb,λc=> ?_⟩;obtain⟨c1,e1⟩:=h.cur _ _ hb c;rw[e1];exact hc c1
 | .mp ..,hn,_,hv | .rW ..,hn,_,hv=>by simp only[V]at hv
theorem VC.ik{E E':Env}(h:CI E E'):∀ {a:aA} (_:a.qh=aL\/Pp E E') {vs:List Value},VC E a vs->VC E' a vs
 | .nil,hn,_,hv=>by simpa only[VC]using hv
 | .cons a b,hn,_,hv=>by simp only[VC]at hv ⊢;obtain⟨v,vs',cs,e,ha,ho,hb⟩:=hv;simp only[aA.qh,ax]at hn;exact⟨v,vs',cs,e,V.ik h (hn.imp And.left id) ha,ho,VC.ik h (hn.imp And.right id) hb⟩
 | .undef,hn,_,hv=>by simp only[VC]at hv
 | .gone,hn,_,hv=>by simp only[VC]at hv
 | .cT,hn,_,hv=>by simp only[VC]at hv
 | .iQ,hn,_,hv=>by simp only[VC]at hv
 | .xu,hn,_,hv=>by simp only[VC]at hv
 | .yl ..,hn,_,hv | .Ay ..,hn,_,hv=>by simp only[VC]at hv
 | .Dh,hn,_,hv=>by simp only[VC]at hv
 | .sb _,hn,_,hv=>by simp only[VC]at hv
 | .d t x,hn,_,hv=>by simp only[VC]at hv
 | .pr a b,hn,_,hv=>by simp only[VC]at hv
 | .ptr ..,hn,_,hv=>by simp only[VC]at hv
 | .dx ..,hn,_,hv=>by simp only[VC]at hv
 | .cg ..,hn,_,hv=>by simp only[VC]at hv
 | .fn ..,hn,_,hv=>by simp only[VC]at hv
 | .vec ..,hn,_,hv=>by simp only[VC]at hv
 | .bx ..,hn,_,hv=>by simp only[VC]at hv
 | .cK ..,hn,_,hv=>by simp only[VC]at hv
 | .mp ..,hn,_,hv | .rW ..,hn,_,hv=>by simp only[VC]at hv
end
theorem V.mono{E E':Env}(h:cM E E'){a:aA}{cs:List Value}(hv:V E a cs):V E' a cs:=hv.ik h.l0 (.inr h.mem.fr)
theorem V.size{E:Env}:∀ {a:aA} {cs:List Value},V E a cs->cs.length=a.size
 | .undef,_,hv=>by simp only[V]at hv
 | .gone,_,hv=>by simp only[V]at hv;obtain⟨v,rfl,_⟩:=hv;rfl
 | .cT,_,hv=>by simp only[V]at hv;rw[hv];rfl
 | .iQ,_,hv=>by simp only[V]at hv;rw[hv];rfl
 | .xu,_,hv=>by simp only[V]at hv;rw[hv];rfl
 | .yl ..,_,hv=>by simp only[V]at hv;obtain⟨_,rfl,_⟩:=hv;rfl
 | .Ay ..,_,hv=>by simp only[V]at hv
 | .Dh,_,hv=>by simp only[V]at hv;rw[hv];rfl
 | .sb _,_,hv=>by simp only[V]at hv;obtain⟨_,_,_,_,rfl,_⟩:=hv;rfl
 | .d t x,_,hv=>by simp only[V]at hv;exact hv.size
 | .pr a b,_,hv=>by simp only[V]at hv;obtain⟨ca,cb,rfl,ha,hb⟩:=hv;simp[aA.size,V.size ha,V.size hb]
 | .ptr ..,_,hv=>by simp only[V]at hv;obtain⟨a,rfl,_⟩:=hv;rfl
 | .dx ..,_,hv=>by simp only[V]at hv;obtain⟨_,_,_,rfl,_⟩:=hv;rfl
 | .cg ..,_,hv=>by simp only[V]at hv;obtain⟨_,_,rfl,_⟩:=hv;rfl
 | .fn ..,_,hv=>by simp only[V]at hv;obtain⟨_,rfl,_⟩:=hv;rfl
 | .cons _ _,_,hv=>by simp only[V]at hv
 | .nil,_,hv=>by simp only[V]at hv
 | .vec ..,_,hv=>by simp only[V]at hv
 | .bx ..,_,hv=>by simp only[V]at hv
 | .cK ..,_,hv=>by simp only[V]at hv;obtain⟨_,rfl,_⟩:=hv;rfl
 | .mp ..,_,hv | .rW ..,_,hv=>by simp only[V]at hv
theorem V.one{E:Env}:∀ {a:aA} {cs:List Value},V E a cs->∀c∈cs,c.oneCell'=aL
 | .undef,_,hv=>by grind [V]
 | .gone,_,hv=>by grind [V]
 | .cT,_,hv=>by grind [V,cW]
 | .iQ,_,hv=>by grind [V,cW]
 | .xu,_,hv=>by grind [V,cW]
 | .yl ..,_,hv=>by grind [V,cW]
 | .Ay ..,_,hv=>by grind [V]
 | .Dh,_,hv=>by grind [V,cW]
 | .sb _,_,hv=>by grind [V,cW]
 | .d t x,_,hv=>by simp[V]at hv;exact hv.one
 | .pr a b,_,hv=>by
  obtain⟨ca,cb,rfl,ha,hb⟩:=hv;intro c hc;rcases bg.1 hc with hc | hc
  ·exact V.one ha c hc
  ·exact V.one hb c hc
 | .ptr ..,_,hv=>by grind [V,cW]
 | .dx ..,_,hv=>by grind [V,cW]
 | .cg ..,_,hv=>by grind [V,cW]
 | .fn ..,_,hv=>by grind [V,cW]
 | .cons _ _,_,hv=>by grind [V]
 | .nil,_,hv=>by grind [V]
 | .vec ..,_,hv=>by grind [V]
 | .bx ..,_,hv=>by grind [V]
 | .cK ..,_,hv=>by grind [V,cW]
 | .mp ..,_,hv | .rW ..,_,hv=>by grind [V]
theorem aA.arX:∀ {v:aA},v.agg=aS->v.size=1
 | .d (.int _) _,_ | .d .bool _,_ | .d .str _,_ | .d (.slice _) _,_ | .d (.fx _) _,_ | .d (.nK _) _,_ | .d (.gF _) _,_ | .d (.eP _) _,_ | .d (.js _) _,_ | .d (.jp _) _,_=>rfl
 | .d .unit _,h | .d (.pair _ _) _,h | .d (.arr _ _) _,h=>by simp[aA.agg,Ty.agg]at h
 | .pr _ _,h=>by simp[aA.agg]at h
 | .undef,_ | .gone,_ | .cT,_ | .iQ,_ | .xu,_ | .Dh,_ | .ptr ..,_ | .dx ..,_ | .cg ..,_ | .fn ..,_ | .cons ..,_ | .nil,_ | .vec ..,_ | .sb _,_ | .bx ..,_ | .cK ..,_ | .mp ..,_ | .rW ..,_ | .yl ..,_ | .Ay ..,_=>rfl
def VS(E:Env):aA->Value->Prop
 | .undef,_=>True
 | .cons a b,v=>∃vs,v= .tuple vs.toArray/\VC E (.cons a b) vs
 | .nil,v=>v= .tuple #[]
 |a,v=>∃cs,V E a cs/\fW a.agg cs v
theorem VS.ik{E E':Env}(h:CI E E'):∀ {a:aA} {v:Value} (_:a.qh=aL\/Pp E E'),VS E a v->VS E' a v:=by
 intro a v hn hv
 cases a <;> first
  |trivial
  |exact hv
  | (obtain⟨cs,h1,h2⟩:=hv;exact⟨cs,V.ik h hn h1,h2⟩)
  | (obtain⟨vs,e,hc⟩:=hv;exact⟨vs,e,VC.ik h hn hc⟩)
theorem VS.mono{E E':Env}(h:cM E E'){a:aA}{v:Value}(hv:VS E a v):VS E' a v:=hv.ik h.l0 (.inr h.mem.fr)
theorem VS.undef{E:Env}{v:Value}:VS E .undef v:=trivial
theorem VS.of{E:Env}{a:aA}{cs:List Value}{v:Value}(h:V E a cs)(ho:fW a.agg cs v):VS E a v:=by
 cases a <;> first
  | (simp[V]at h;done)
  |exact⟨cs,h,ho⟩
theorem VS.eg{E:Env}{a:aA}{v:Value}(h:VS E a v)(hc:a.eg=aL):∃cs,V E a cs/\fW a.agg cs v:=by
 cases a <;> first
  | (simp[aA.eg]at hc;done)
  |exact h
theorem VS.single{E:Env}{a:aA}{v:Value}(h:VS E a v)(hc:a.eg=aL)(ha:a.agg=aS):V E a [v]:=by obtain⟨cs,hv,ho⟩:=h.eg hc;rw[ha]at ho;have:cs=[v]:=ho;rw[<-this];exact hv
theorem fW.cells{agg:Bool}{cs:List Value}{v:Value}(h:fW agg cs v)(h1:∀c∈cs,c.oneCell'=aL):v.cells=cs.toArray:=by
 cases agg with
 |true=>have:=h;rw[this];rfl
 |false=>
  have e:cs=[v]:=h;have:=h1 v (by simp[e]);rw[e];cases v <;> first | rfl | grind [cW]
end Go.Ab
namespace Go.Ab
section
variable {α β:Type}
theorem aw{a b:α}:(Out.ok a).eval=aj b↔a=b:=by simp[Out.eval]
theorem av{b:α}:(Out.fail:Out α).eval=aj b↔False:=by simp[Out.eval]
theorem bP{c:Bool}{r:Out α}{b:α}:(Out.uK c r).eval=aj b↔c=aL/\r.eval=aj b:=by cases c <;> simp[Out.eval]
theorem aD{c:Bool}{r:Out α}{b:α}:(Out.guard c r).eval=aj b↔c=aL/\r.eval=aj b:=by cases c <;> simp[Out.guard,Out.eval]
theorem jm{x:Option β}{f:β->Out α}{b:α}:(Out.get x f).eval=aj b↔∃y,x=aj y/\(f y).eval=aj b:=by cases x <;> simp[Out.eval]
theorem gS{x:Option α}{b:α}:(Out.opt x).eval=aj b↔x=aj b:=by cases x <;> simp[Out.opt,Out.eval]
theorem R7(o:Out α)(f:α->Out β):(o.bind f).eval=o.eval.bind λa=>(f a).eval:=by
 induction o with
 |ok a=>rfl
 |fail=>rfl
 |uK c r ih=>cases c <;> simp[Out.bind,Out.eval,ih]
 |get x g ih=>cases x <;> simp[Out.bind,Out.eval,ih]
 |br c x y ih1 ih2=>cases c <;> simp[Out.bind,Out.eval,ih1,ih2]
theorem ay{o:Out α}{f:α->Out β}{b:β}:(o.bind f).eval=aj b↔∃a,o.eval=aj a/\(f a).eval=aj b:=by simp[R7,Option.bind_eq_some_iff]
theorem run_eq{R:Type}(o:Out α)(k:α->Option R):o.run k=o.eval.bind k:=by
 induction o with
 |ok a=>rfl
 |fail=>rfl
 |uK c r ih=>cases c <;> simp[Out.run,Out.eval,aG,ih]
 |get x g ih=>cases x <;> simp[Out.run,Out.eval,al,ih]
 |br c x y ih1 ih2=>cases c <;> simp[Out.run,Out.eval,aG,ih1,ih2]
theorem ea{R:Type}{o:Out α}{k:α->Option R}{r:R}:o.run k=aj r↔∃a,o.eval=aj a/\k a=aj r:=by simp[run_eq,Option.bind_eq_some_iff]
end
theorem jj{t t':Ty}{x:t.den}{y:t'.den}(h:wa t t' x=aj y):∃e:t=t',e▸x=y:=by grind [wa]
theorem bo.map{α β:Type}{R:List Value->α->Prop}{R':List Value->β->Prop}{f:α->β}(h:∀c x,R c x->R' c (f x)):∀ {cs:List Value} {l:List α},bo R cs l->bo R' cs (l.map f)
 |_,[],hc=>hc
 |_,x::xs,⟨c,cs',e,hx,hr⟩=>⟨c,cs',e,h c x hx,bo.map h hr⟩
theorem cn.aOu{E:Env}:∀(a b:Ty) (f:a.den->b.den),aba a b=aj f->∀(cs:List Value) (x:a.den),cn E a cs x->cn E b cs (f x):=by
 intro a b
 induction a,b using aba.induct with
 |case1 t=>
  intro f hf cs x hx;unfold aba at hf;rw[yC rfl]at hf;obtain rfl:=bh hf;simp only[cn]at hx;obtain⟨h1,h2⟩:=hx;show cn E (.slice t) cs ((x:Option (List t.den)).getD []);simp only[cn];cases hx:(x:Option (List t.den)) with
  |none=>exact⟨aF,0,[],h1 hx,aB _,λh=>absurd h (gQ 0),λi v hh=>by simp at hh,rfl⟩
  |some l=>exact h2 l hx
 |case2 t t' kJ=>
  intro f hf;unfold aba at hf;rw[dif_neg kJ]at hf;cases hf
 |case3 t=>
  intro f hf cs x hx;unfold aba at hf;rw[yC rfl]at hf;obtain rfl:=bh hf;simp only[cn]at hx ⊢;refine⟨λh=>(by cases h),λl hl=> ?_⟩;obtain rfl:x=l:=bh hl;exact hx
 |case4 t t' kJ=>
  intro f hf;unfold aba at hf;rw[dif_neg kJ]at hf;cases hf
 |case5 a b c d f g h1 h2 ih1 ih2=>
  intro k hk cs x hx;unfold aba at hk;rw[h2,h1]at hk;obtain rfl:=bh hk;simp only[cn]at hx ⊢;obtain⟨ca,cb,e,ha,hb⟩:=hx;exact⟨ca,cb,e,ih1 f h2 ca x.1 ha,ih2 g h1 cb x.2 hb⟩
 |case6 a b c d hn ih1 ih2=>
  intro p hp;unfold aba at hp;split at hp
  ·rename_i f k h1 h2;exact(hn _ _ h1 h2).elim
  ·cases hp
 |case7 a b f h1 ih=>
  intro k hk cs x hx;unfold aba at hk;rw[h1]at hk;obtain rfl:=bh hk;simp only[cn]at hx ⊢;obtain⟨ad,cap,vs,e,hl,hs,hr,hc⟩:=hx;rw[List.length_map];exact⟨ad,cap,vs,e,hl,hs,hr,hc.map λc x hx=>ih f h1 c x hx⟩
 |case8 a b h1 ih=>
  intro p hp;unfold aba at hp;rw[h1]at hp;cases hp
 |case9 t=>
  intro f hf cs x hx;unfold aba at hf;rw[yC rfl]at hf;obtain rfl:=bh hf;simp only[cn]at hx;obtain⟨a,cap,vs,e,hl,hs,hr,hc⟩:=hx;show cn E (.eP t) cs (aS,x);simp only[cn];exact⟨a,cap,vs,e,hl,hs,hc,λ_=>hr,λhh=>by cases hh⟩
 |case10 t t' kJ=>
  intro f hf;unfold aba at hf;rw[dif_neg kJ]at hf;cases hf
 |case11 a h1 h2 h3 h4 h5=>
  intro f hf cs x hx;rw[aba.eq_6 _ _ h1 h2 h3 h4 h5,yC rfl]at hf;obtain rfl:=bh hf;exact hx
 |case12 a b h1 h2 h3 h4 h5 kJ=>
  intro f hf;rw[aba.eq_6 _ _ h1 h2 h3 h4 h5,dif_neg kJ]at hf;cases hf
theorem aLM{t t':Ty}{f:t.den->t'.den}(hp:aba t t'=aj f):t.agg=t'.agg:=by
 unfold aba at hp;split at hp
 ·rfl
 ·rfl
 ·rfl
 ·rfl
 ·rfl
 ·split at hp
  ·rename_i e;rw[e]
  ·cases hp
theorem Va{t t':Ty}{x:t.den}{y:t'.den}(h:AM t t' x=aj y):t.agg=t'.agg:=by grind [AM,jj,aLM]
theorem xP{E:Env}{t t':Ty}{x:t.den}{y:t'.den}(h:AM t t' x=aj y){cs:List Value}(hx:cn E t cs x):cn E t' cs y:=by
 unfold AM at h;split at h
 ·rename_i z hz;obtain⟨e,hz⟩:=jj hz;subst e;obtain rfl:=bh h;simp only at hz;rw[<-hz];exact hx
 ·split at h
  ·rename_i f hf;obtain rfl:=bh h;exact cn.aOu _ _ f hf cs x hx
  ·cases h
theorem ahT{E:Env}{t t':Ty}{x:List t.den}{y:List t'.den}(h:AM (.slice t) (.slice t') x=aj y):y.length=x.length/\∀vs,bo (cn E t) vs x->bo (cn E t') vs y:=by
 unfold AM at h;split at h
 ·grind [jj]
 ·split at h
  ·rename_i p hp;obtain rfl:=bh h;unfold aba at hp;cases hd:aba t t' with
   |none=>grind
   |some q=>
    rw[hd]at hp;obtain rfl:=bh hp;exact⟨List.length_map _,λvs hc=>hc.map λc x hx=>cn.aOu _ _ q hd c x hx⟩
  grind
def VO(E:Env):aA->List Value->Prop
 | .vec _ t l,cs=>bo (cn E t) cs l
 |a,cs=>V E a cs
theorem VO.of{E:Env}{a:aA}{cs:List Value}(h:V E a cs):VO E a cs:=by cases a <;> first | exact h | grind [V]
def aA.iD:aA->Bool | .vec .. =>aL | .mp .. =>aL | .rW .. =>aL | .Ay .. =>aL | _=>aS
theorem VO.to{E:Env}{a:aA}{cs:List Value}(h:VO E a cs)(hn:a.iD=aS):V E a cs:=by cases a <;> first | exact h | grind [aA.iD]
theorem alk{t:Ty}{l:List t.den}{i:Nat}(h:i < l.length):nth t l i=l[i]:=by grind [nth]
theorem ac1{α:Type}(cs:List α)(n m k j:Nat)(h:k+j<=m):(((cs.drop n).take m).drop k).take j=(cs.drop (n+k)).take j:=by grind [vW,gO]
theorem Ua{E:Env}{t:Ty}{cs:List Value}{l:List t.den}(h:bo (cn E t) cs l){i:Nat}(hi:i < l.length):
  cn E t ((cs.drop (i*t.size)).take t.size) l[i]/\i*t.size+t.size<=cs.length:=by
 have hz:∀c x,cn E t c x->c.length=t.size:=λc x hx=>hx.size
 refine⟨h.get hz i hi,?_⟩;rw[h.length hz,<-Nat.succ_mul];exact Nat.mul_le_mul_right _ hi
theorem r9{E:Env}:∀(p:List Hk) (c:aA) (cs:List Value) (n:Nat) (v:aA),VO E c cs->(loc c p).eval=aj (n,v)->
  (n=0/\v=c)\/(V E v ((cs.drop n).take v.size)/\n+v.size<=cs.length)
 |[],c,cs,n,v,hc,h=>by grind [loc,aw]
 |st::p,c,cs,n,v,hc,h=>by
  by_cases vR:st= .arr
  ·subst vR;have h':(loc c p).eval=aj (n,v):=by grind [loc]
   exact r9 p c cs n v hc h'
  right;have whole:∀(c':aA) (cs':List Value) (n':Nat) (v':aA),V E c' cs'->(loc c' p).eval=aj (n',v')->V E v' ((cs'.drop n').take v'.size)/\n'+v'.size<=cs'.length:=by
   intro c' cs' n' v' hc' hl;rcases r9 p c' cs' n' v' (VO.of hc') hl with⟨rfl,rfl⟩ | hh
   ·have:=hc'.size;grind
   grind
  have second:∀(a b:aA) (ca cb:List Value),cs=ca++cb->ca.length=a.size->V E b cb->((loc b p).bind λ(n,v)=>Out.ok (a.size+n,v)).eval=aj (n,v)->
    V E v ((cs.drop n).take v.size)/\n+v.size<=cs.length:=by
   intro a b ca cb e hl hb hh;obtain⟨⟨n',v'⟩,h1,h2⟩:=ay.1 hh;obtain⟨rfl,rfl⟩:=h2;subst e;rw[<-hl,nb,fv au,bm,Nat.add_sub_cancel_left];grind
  have elem:∀(t:Ty) (l:List t.den) (i:Nat),bo (cn E t) cs l->(Out.uK (decide (i < l.length)) ((loc (.d t (nth t l i)) p).bind λ(n,v)=>Out.ok (i*t.size+n,v))).eval=aj (n,v)->
    V E v ((cs.drop n).take v.size)/\n+v.size<=cs.length:=by
   intro t l i zE hh;obtain⟨hi,hh⟩:=bP.1 hh;have hi:i < l.length:=by grind
   obtain⟨⟨n',v'⟩,h1,h2⟩:=ay.1 hh;obtain⟨rfl,rfl⟩:=h2;obtain⟨hp,hle⟩:=Ua zE hi;rw[alk hi]at h1;have hv:V E (.d t l[i]) ((cs.drop (i*t.size)).take t.size):=by grind [V]
   grind [ac1,VO]
  cases c with
  |pr a b=>
   simp only[VO,V]at hc;obtain⟨ca,cb,e,ha,hb⟩:=hc;cases st with
   |arr=>grind
   |fst=>
    simp only[loc]at h;obtain⟨h3,h4⟩:=whole a ca n v ha h;subst e;refine⟨?_,by grind⟩;rw[nb,List.take_append,gm,Nat.sub_eq_zero_of_le (by omega:v.size<=ca.length - n),fe,bJ];exact h3
   |snd=>simp only[loc]at h;exact second a b ca cb e ha.size hb h
   |idx i=>grind [loc,av]
  |d t x=>
   simp only[VO,V]at hc;cases t with
   |pair ta tb=>
    simp only[cn]at hc;obtain⟨ca,cb,e,ha,hb⟩:=hc;cases st with
    |arr=>grind
    |fst=>
     simp only[loc]at h;obtain⟨h3,h4⟩:=whole (.d ta x.1) ca n v (by grind [V]) h;subst e;refine⟨?_,by grind⟩;rw[nb,List.take_append,gm,Nat.sub_eq_zero_of_le (by omega:v.size<=ca.length - n),fe,bJ];exact h3
    |snd=>simp only[loc]at h;exact second (.d ta x.1) (.d tb x.2) ca cb e ha.size (by grind [V]) h
    |idx i=>grind [loc,av]
   |arr m t=>
    simp only[cn]at hc;cases st with
    |arr=>grind
    |idx i=>grind [loc]
    |fst=>grind [loc,av]
    |snd=>grind [loc,av]
   |_=>cases st <;> first | exact absurd rfl vR | (simp only[loc,av]at h)
  |vec e t l=>
   simp only[VO]at hc;cases st with
   |arr=>grind
   |idx i=>grind [loc]
   |fst=>grind [loc,av]
   |snd=>grind [loc,av]
  |_=>cases st <;> first | exact absurd rfl vR | (simp only[loc,av]at h)
theorem asR{E:Env}{a b:aA}{ca cb:List Value}(ha:V E a ca)(hb:V E b cb):V E (SO a b) (ca++cb):=by unfold SO;grind [V,cn]
theorem XG(a b:aA):(SO a b).iD=aS:=by unfold SO;split <;> rfl
def dB(cs:List Value)(n:Nat)(vs:List Value):List Value:=cs.take n++vs++cs.drop (n+vs.length)
theorem EV{ca cb vs:List Value}{n:Nat}(h:n+vs.length<=ca.length):dB (ca++cb) n vs=dB ca n vs++cb:=by unfold dB;grind
theorem Uu{ca cb vs:List Value}{n:Nat}:dB (ca++cb) (ca.length+n) vs=ca++dB cb n vs:=by unfold dB;rw[List.take_append,bG au,nb,fv au];grind
theorem awy{cs vs:List Value}{i z n:Nat}(hz:i+z<=cs.length)(h:n+vs.length<=z):
  dB cs (i+n) vs=cs.take i++dB ((cs.drop i).take z) n vs++cs.drop (i+z):=by
 have e:cs=cs.take i++((cs.drop i).take z++cs.drop (i+z)):=by rw[<-gO,eJ,eJ]
 have hl:(cs.take i).length=i:=by simp;omega
 have hm:((cs.drop i).take z).length=z:=by simp;omega
 conv=>lhs;rw[e,show i+n=(cs.take i).length+n by rw[hl]]
 rw[Uu,EV au];simp only[aM]
theorem jc{cs vs:List Value}{n:Nat}(h:n+vs.length<=cs.length):(dB cs n vs).length=cs.length:=by grind [dB]
def km:aA->aA->Prop
 | .vec e t l,.vec e' t' l'=>e'=e/\t'=t/\l'.length=l.length
 | .vec ..,_=>False
 |_,.vec .. =>False
 | .mp ..,_ | .rW ..,_ | .Ay ..,_=>False
 |_,.mp .. | _,.rW .. | _,.Ay .. =>False
 |_,_=>True
theorem km.s9{a b:aA}(h:km a b)(ha:a.iD=aS):b.iD=aS:=by
 cases b <;> first
  |rfl
  | (cases a <;> first | (simp[aA.iD]at ha;done) | exact h.elim)
theorem km.of{a b:aA}(ha:a.iD=aS)(hb:b.iD=aS):km a b:=by
 cases a <;> first
  | (done)
  | (cases b <;> first | trivial | (done))
theorem V.s9{E:Env}{a:aA}{cs:List Value}(h:V E a cs):a.iD=aS:=by cases a <;> first | rfl | (simp only[V]at h)
theorem pR{E:Env}:∀(p:List Hk) (c:aA) (cs:List Value) (n:Nat) (o v c':aA) (vs:List Value),VO E c cs->(loc c p).eval=aj (n,o)->V E v vs->
  (AH c p v).eval=aj c'->n+vs.length<=cs.length/\VO E c' (dB cs n vs)/\
   km c c'
 |[],c,cs,n,o,v,c',vs,hc,hl,hv,h=>by
  simp only[loc,aw,jU]at hl;obtain⟨rfl,rfl⟩:=hl
  have main:∀(aS2:c.iD=aS),(Out.guard (v.eg && (c.size==v.size)) (.ok v)).eval=aj c'->0+vs.length<=cs.length/\VO E c' (dB cs 0 vs)/\
   km c c':=by
   intro aS2 hg;obtain⟨h1,h2⟩:=aD.1 hg;obtain rfl:=aw.1 h2;simp only[ax,gE]at h1;have e1:=(hc.to aS2).size;have e2:=hv.size;refine⟨au,?_,?_⟩
   ·grind [VO.of,dB]
   ·exact km.of aS2 hv.s9
  cases c with
  |vec e t l=>grind [AH,av]
  |mp k v l=>grind [VO,V]
  |rW q ver k v rest cur=>grind [VO,V]
  |Ay k f p=>grind [VO,V]
  |_=>exact main rfl (by simpa only[AH]using h)
 |st::p,c,cs,n,o,v,c',vs,hc,hl,hv,h=>by
  by_cases vR:st= .arr
  ·subst vR;have hl':(loc c p).eval=aj (n,o):=by grind [loc]
   have h':(AH c p v).eval=aj c':=by grind [AH]
   exact pR p c cs n o v c' vs hc hl' hv h'
  have left:∀(a b:aA) (ca cb:List Value),cs=ca++cb->V E a ca->V E b cb->(loc a p).eval=aj (n,o)->((AH a p v).bind λa'=>Out.ok (SO a' b)).eval=aj c'->
    n+vs.length<=cs.length/\VO E c' (dB cs n vs)/\c'.iD=aS:=by
   intro a b ca cb e ha hb hl hh;obtain⟨a',h1,h2⟩:=ay.1 hh;obtain rfl:=aw.1 h2;obtain⟨h3,h4,h5⟩:=pR p a ca n o v a' vs (VO.of ha) hl hv h1;subst e;refine⟨by grind,?_,XG _ _⟩;rw[EV h3];have aUE:a'.iD=aS:=h5.s9 ha.s9;exact VO.of (asR (h4.to aUE) hb)
  have right:∀(a b:aA) (ca cb:List Value),cs=ca++cb->ca.length=a.size->V E a ca->V E b cb->((loc b p).bind λ(n,v)=>Out.ok (a.size+n,v)).eval=aj (n,o)->
    ((AH b p v).bind λb'=>Out.ok (SO a b')).eval=aj c'->n+vs.length<=cs.length/\VO E c' (dB cs n vs)/\c'.iD=aS:=by
   intro a b ca cb e axR ha hb hl hh;obtain⟨⟨n',v'⟩,h1,h2⟩:=ay.1 hl;simp only[aw,jU]at h2;obtain⟨rfl,rfl⟩:=h2;obtain⟨b',h3,h4⟩:=ay.1 hh;obtain rfl:=aw.1 h4;obtain⟨h5,h6,h7⟩:=pR p b cb n' v' v b' vs (VO.of hb) h1 hv h3;subst e;refine⟨by grind,?_,XG _ _⟩;rw[<-axR,Uu];have aUE:b'.iD=aS:=h7.s9 hb.s9;exact VO.of (asR ha (h6.to aUE))
  have elem:∀(t:Ty) (l:List t.den) (i:Nat) (mk:List t.den->aA),bo (cn E t) cs l->(Out.uK (decide (i < l.length)) ((loc (.d t (nth t l i)) p).bind λ(n,v)=>Out.ok (i*t.size+n,v))).eval=aj (n,o)->
    (Out.uK (decide (i < l.length)) ((AH (.d t (nth t l i)) p v).bind fun
     | .d t' y=>(Out.opt (wa t' t y)).bind λy=> .ok (mk (l.set i y))
     |_=> .fail)).eval=aj c'->
    n+vs.length<=cs.length/\∃l',c'=mk l'/\l'.length=l.length/\bo (cn E t) (dB cs n vs) l':=by
   intro t l i mk zE hl hh;obtain⟨hi,hl⟩:=bP.1 hl;have hi:i < l.length:=by grind
   obtain⟨⟨n',v'⟩,h1,h2⟩:=ay.1 hl;simp only[aw,jU]at h2;obtain⟨rfl,rfl⟩:=h2;obtain⟨_,hh⟩:=bP.1 hh;obtain⟨w,h3,h4⟩:=ay.1 hh;obtain⟨hp,hle⟩:=Ua zE hi;rw[alk hi]at h1 h3;have aQr:V E (.d t l[i]) ((cs.drop (i*t.size)).take t.size):=by grind [V]
   have hlen:((cs.drop (i*t.size)).take t.size).length=t.size:=hp.size;obtain⟨h5,h6,h7⟩:=pR p _ _ n' v' v w vs (VO.of aQr) h1 hv h3;cases w with
   |d t' y=>
    simp only at h4;obtain⟨y',h8,h9⟩:=ay.1 h4;obtain⟨rfl,h8⟩:=jj (gS.1 h8);simp only at h8;subst h8;obtain rfl:=aw.1 h9;refine⟨au,_,rfl,by simp,?_⟩;have hy:cn E t' (dB ((cs.drop (i*t'.size)).take t'.size) n' vs) y:=by grind [VO,V]
    have:=bo.set (λc x hx=>cn.size hx) zE i hi hy;rw[awy (by omega:i*t'.size+t'.size<=cs.length) au];rwa[hy.size]at this
   |_=>simp only[av]at h4
  cases c with
  |pr a b=>
   simp only[VO,V]at hc;obtain⟨ca,cb,e,ha,hb⟩:=hc;cases st with
   |arr=>exact absurd rfl vR
   |fst=>
    simp only[loc]at hl;simp only[AH]at h;obtain⟨r1,r2,r3⟩:=left a b ca cb e ha hb hl h;exact⟨r1,r2,km.of rfl r3⟩
   |snd=>
    simp only[loc]at hl;simp only[AH]at h;obtain⟨r1,r2,r3⟩:=right a b ca cb e ha.size ha hb hl h;exact⟨r1,r2,km.of rfl r3⟩
   |idx i=>grind [av,AH]
  |d t x=>
   simp only[VO,V]at hc;cases t with
   |pair ta tb=>
    simp only[cn]at hc;obtain⟨ca,cb,e,ha,hb⟩:=hc;have ha':V E (.d ta x.1) ca:=by simpa only[V]using ha
    have hb':V E (.d tb x.2) cb:=by grind [V]
    cases st with
    |arr=>exact absurd rfl vR
    |fst=>
     simp only[loc]at hl;simp only[AH]at h;obtain⟨r1,r2,r3⟩:=left _ _ ca cb e ha' hb' hl h;exact⟨r1,r2,km.of rfl r3⟩
    |snd=>
     simp only[loc]at hl;simp only[AH]at h;obtain⟨r1,r2,r3⟩:=right (.d ta x.1) (.d tb x.2) ca cb e ha.size ha' hb' hl h;exact⟨r1,r2,km.of rfl r3⟩
    |idx i=>grind [av,AH]
   |arr m t=>
    simp only[cn]at hc;cases st with
    |arr=>exact absurd rfl vR
    |idx i=>
     simp only[loc]at hl;simp only[AH]at h;obtain⟨r1,l',e,r2,r3⟩:=elem t x i (λl=> .d (.arr m t) l) hc.2 hl h;grind [VO,V,cn,km]
    |fst=>grind [av,AH]
    |snd=>grind [av,AH]
   |_=>cases st <;> first | exact absurd rfl vR | (simp only[loc,av]at hl)
  |vec e t l=>
   simp only[VO]at hc;cases st with
   |arr=>exact absurd rfl vR
   |idx i=>
    simp only[loc]at hl;simp only[AH]at h;obtain⟨r1,l',e',r2,r3⟩:=elem t l i (λl=> .vec e t l) hc hl h;grind [VO,km]
   |fst=>grind [av,AH]
   |snd=>grind [av,AH]
  |_=>cases st <;> first | exact absurd rfl vR | (simp only[loc,av]at hl)
end Go.Ab
namespace Go.Ab
def aSb(E:Env)(id:Id)(fr:Bool)(e:TypeId)(t:Ty)(l:List t.den):Prop:=
 0 < t.size/\match E.β id with
  |none=>l=[]
  |some pl=>∃cur k,E.w.heap[pl.b]? =aj (.cells cur e (0,0))/\cur.size=pl.cap*t.size/\l.length<=pl.cap/\pl.cap<=maxLen/\E.g pl.b= .own (.id id) k/\
    k<=l.length*t.size/\(fr=aS->k=0)/\bo (cn E t) (cur.toList.take (l.length*t.size)) l
def aA.JU:aA->Pl->Nat->TypeId->Prop
 | .bx e' 0 _,_,_,e=>e=e'
 | .bx e' (z+1) c,pl,n,e=>e=e'/\n=pl.cap*(z+1)/\pl.cap<=maxLen/\c.size<=n
 |_,_,_,_=>True
def aA.v7:aA->Nat->Nat
 | .bx _ (_+1) c,_=>c.size
 |_,n=>n
def aA.akU:aA->Bool | .bx .. =>aL | _=>aS
theorem V.xI{E:Env}{a:aA}{cs:List Value}(h:V E a cs):a.akU=aS:=by cases a <;> first | rfl | grind [V]
theorem WD{c:aA}(h:c.akU=aS):c.strip=c:=by cases c <;> first | rfl | grind [aA.akU]
theorem U5{c:aA}(h:c.akU=aS)(pl:Pl)(n:Nat)(e:TypeId):c.JU pl n e:=by cases c <;> first | trivial | (simp at h)
theorem aaJ{c:aA}(h:c.akU=aS)(n:Nat):c.v7 n=n:=by cases c <;> first | rfl | grind [aA.akU]
theorem II(c:aA){c':aA}(h:c'.akU=aS):(c.wrap c').strip=c':=by cases c <;> first | rfl | exact WD h
theorem Ho{c c':aA}{pl:Pl}{n:Nat}{e:TypeId}(hc:c.JU pl n e)(h:c'.akU=aS)(hs:c'.size=c.strip.size):(c.wrap c').JU pl n e:=by
 cases c with
 |bx e' z c=>cases z with
  |zero=>exact hc
  |succ z=>exact⟨hc.1,hc.2.1,hc.2.2.1,by rw[hs];exact hc.2.2.2⟩
 |_=>exact U5 h pl n e
theorem MM{c c':aA}{n:Nat}(h:c'.akU=aS)(hs:c'.size=c.strip.size):(c.wrap c').v7 n=c.v7 n:=by
 cases c with
 |bx e' z c=>cases z with
  |zero=>rfl
  |succ z=>exact hs
 |_=>exact aaJ h n
theorem ajT{c:aA}{pl:Pl}{n:Nat}{e:TypeId}(h:c.JU pl n e):c.v7 n<=n:=by
 cases c with
 |bx e' z c=>cases z with
  |zero=>exact aB _
  |succ z=>exact h.2.2.2
 |_=>exact aB _
def as4(id:Id)(fr:Bool):iU:=match fr with | true=> .free | false=> .own (.id id) 0
def Nw(E:Env)(id:Id)(fr:Bool)(c:aA):Prop:=∃pl cur e,E.β id=aj pl/\E.w.heap[pl.b]? =aj (.cells cur e (0,0))/\E.g pl.b=as4 id fr/\c.JU pl cur.size e/\V E c.strip (cur.toList.take (c.v7 cur.size))
def Alike{α β:Type}(R:α->β->Prop):List α->List β->Prop
 |[],[]=>True
 |x::xs,y::ys=>R x y/\Alike R xs ys
 |_,_=>False
theorem Alike.mono{α β:Type}{R R':α->β->Prop}(h:∀x y,R x y->R' x y):∀ {xs:List α} {ys:List β},Alike R xs ys->Alike R' xs ys
 |[],[],_=>trivial
 |_::_,_::_,⟨h1,h2⟩=>⟨h _ _ h1,Alike.mono h h2⟩
 |[],_::_,h=>h.elim
 |_::_,[],h=>h.elim
def E8(E:Env)(t:Ty)(v:Value)(x:t.den):Prop:=∃cs,cn E t cs x/\fW t.agg cs v
def CH(E:Env)(kt vt:Ty)(e:fq)(x:kt.den×vt.den):Prop:=E8 E kt e.key x.1/\E8 E vt e.val x.2
theorem CH.ik{E E':Env}(h:vd E E'){kt vt:Ty}(hk:kt.qh=aL\/Pp E E')(hn:vt.qh=aL\/Pp E E'){e:fq}{x:kt.den×vt.den}(he:CH E kt vt e x):CH E' kt vt e x:=
 let⟨⟨c1,a1,b1⟩,c2,a2,b2⟩:=he
 ⟨⟨c1,a1.ik h hk,b1⟩,c2,a2.ik h hn,b2⟩
theorem CH.mono{E E':Env}(h:zB E E'){kt vt:Ty}{e:fq}{x:kt.den×vt.den}(he:CH E kt vt e x):CH E' kt vt e x:=he.ik h.tovd (.inr h.fr) (.inr h.fr)
def Zf(E:Env)(kt vt:Ty)(es:List fq)(l:List (kt.den×vt.den)):Prop:=∃l',Alike (CH E kt vt) es l'/\l'.Perm l
theorem Zf.ik{E E':Env}(h:vd E E'){kt vt:Ty}(hk:kt.qh=aL\/Pp E E')(hn:vt.qh=aL\/Pp E E'){es:List fq}{l:List (kt.den×vt.den)}(hm:Zf E kt vt es l):Zf E' kt vt es l:=
 let⟨l',h1,h2⟩:=hm
 ⟨l',h1.mono λ_ _ he=>he.ik h hk hn,h2⟩
theorem Zf.mono{E E':Env}(h:zB E E'){kt vt:Ty}{es:List fq}{l:List (kt.den×vt.den)}(hm:Zf E kt vt es l):Zf E' kt vt es l:=hm.ik h.tovd (.inr h.fr) (.inr h.fr)
def mz(es:List fq)(clock:Nat):Prop:=(es.map (·.born)).Nodup/\∀e∈es,e.born < clock
theorem mz.nil(n:Nat):mz [] n:=⟨kF,λ_ h=>(by cases h)⟩
theorem mz.push{es:List fq}{clock:Nat}(h:mz es clock){e:fq}(he:e.born=clock):mz (es++ [e]) (clock+1):=by grind [mz]
theorem mz.erase{es:List fq}{clock:Nat}(h:mz es clock)(j:Nat):mz (es.eraseIdx j) clock:=⟨h.1.sublist ((pT es j).map _),λx hx=>h.2 x ((pT es j).subset hx)⟩
theorem mz.set{es:List fq}{clock:Nat}(h:mz es clock){j:Nat}{e x:fq}(hj:es[j]? =aj e)(hx:x.born=e.born):mz (es.set j x) clock:=by grind [List.map_set,mz]
def aUn(E:Env)(id:Id)(kt vt:Ty)(l:List (kt.den×vt.den)):Prop:=
 ∃pl es clock,E.β id=aj pl/\E.w.heap[pl.b]? =aj (.map es clock)/\E.g pl.b= .own (.id id) 0/\(Zf E kt vt es.toList l/\(l.map (·.1)).Nodup)/\mz es.toList clock
def aPq(E:Env)(i q:Id)(ver:Nat)(kt vt:Ty)(rest:List (kt.den×vt.den))(cur:Option (kt.den×vt.den)):Prop:=
 ∃pl mb since seen c0,E.β i=aj pl/\E.w.heap[pl.b]? =aj (.mapIter (aj mb) since seen c0)/\E.g pl.b= .own (.id i) 0/\∀vr,ver=vr+1->E.Ct q vr/\
  (E.cur q vr->(∃k v l,E.s q=aj (.obj vr aL (.mp k v l)))/\∃plq es clock,E.β q=aj plq/\plq.b=mb/\E.w.heap[plq.b]? =aj (.map es clock)/\E.g plq.b= .own (.id q) 0/\
   (∀x∈es.toList,x.born < since)/\(since<=c0/\since<=clock)/\(es.toList.map (·.born)).Nodup/\Zf E kt vt (es.toList.filter λe=> !seen.contains e.born) rest/\
   ∀x,cur=aj x->∃(e:fq) (seen':Array Nat),e∈es.toList/\seen=seen'.push e.born/\c0=clock/\CH E kt vt e x)
def aPc:Nat->LoopState->Option Code->Prop
 | 0,st,pe=>st= .ready/\pe=aF
 | 1,st,_=>st= .busy
 | 2,st,pe=>st= .done/\pe=aj .ret
 |n+3,st,pe=>st= .done/\pe=aj (.exit n)
def Hj(E:Env)(f:aA)(tmps:Array Value):Prop:=f.list.length=tmps.size/\∀i,VS E (f.list.getD i .undef) (tmps.getD i undef)
def aUo(E:Env)(id:Id)(c:xO)(f:aA)(p:Nat):Prop:=∃pl r,E.β id=aj pl/\E.w.heap[pl.b]? =aj (.loop r)/\E.g pl.b= .own (.id id) 0/\(r.params=c.ps/\r.assign=c.as/\r.body=c.b)/\Hj E f r.tmps/\aPc p r.state r.pending
def xo(E:Env)(id:Id)(fr:Bool):aA->Prop
 | .Ay c f p=>aUo E id c f p
 | .vec e t l=>aSb E id fr e t l
 | .mp kt vt l=>aUn E id kt vt l
 | .rW q ver kt vt rest cur=>aPq E id q ver kt vt rest cur
 |c=>Nw E id fr c
theorem xo.box{E:Env}{id:Id}{fr:Bool}{c:aA}(h:xo E id fr c)(hn:c.iD=aS):Nw E id fr c:=by cases c <;> first | exact h | grind [aA.iD]
theorem Nw.obj{E:Env}{id:Id}{fr:Bool}{c:aA}(h:Nw E id fr c):xo E id fr c:=by cases c <;> first | exact h | grind [aA.strip,V,Nw]
def iL(E:Env):Prop:=∀id ver fr c,E.s id=aj (.obj ver fr c)->xo E id fr c
structure kG(st:Bool)(w w':World)(g g':Nat->iU):Prop where
 os:w'.os=w.os
 tape:w'.tape=w.tape
 output:w'.output=w.output/\w.drawn<=w'.drawn
 size:w.heap.size<=w'.heap.size
 afP:∀b,b < w.heap.size->match g b with
  | .free=>g' b= .free/\w'.heap[b]? =w.heap[b]?
  | .own .dX k=>g' b= .own .dX k/\w'.heap[b]? =w.heap[b]?
  | .own (.id _) k=>(g' b= .free\/(k=0/\(g' b= .fresh\/g' b= .gD))\/∃i k',g' b= .own (.id i) k'/\k<=k')/\∀off v,off < k->w.cell? ⟨b,off,aF⟩=aj v->w'.cell? ⟨b,off,aF⟩=aj v
  | .fresh=>(g' b= .fresh/\w'.heap[b]? =w.heap[b]?)\/(st=aS/\g' b= .gD)
  | .gD=>g' b= .gD/\∀cur e,w.heap[b]? =aj (.cells cur e (0,0))->∃cur',w'.heap[b]? =aj (.cells cur' e (0,0))/\cur'.size=cur.size
abbrev Trans:=kG aL
theorem kG.refl{st:Bool}(w:World)(g:Nat->iU):kG st w w g g:=
 ⟨rfl,rfl,⟨rfl,aB _⟩,aB _,λb _=>by
  cases g b with
  |free=>exact⟨rfl,rfl⟩
  |own o k=>cases o with
   |dX=>exact⟨rfl,rfl⟩
   |id i=>exact⟨.inr (.inr ⟨i,k,rfl,aB _⟩),λ_ _ _ h=>h⟩
  |fresh=>exact .inl ⟨rfl,rfl⟩
  |gD=>exact⟨rfl,λcur e h=>⟨cur,h,rfl⟩⟩⟩
theorem Trans.refl(w:World)(g:Nat->iU):Trans w w g g:=kG.refl w g
theorem Trans.aTK{w w':World}{g g':Nat->iU}(h:Trans w w' g g'){st:Bool}:kG st w w' g g':=
 ⟨h.os,h.tape,h.output,h.size,λb hb=>by
  have:=h.afP b hb;cases hg:g b with
  |fresh=>rw[hg]at this;exact this.imp id λx=>by cases x.1
  |own o k=>cases o <;> (rw[hg]at this;exact this)
  |_=>rw[hg]at this;exact this⟩
theorem kG.trans{st:Bool}{w w' w'':World}{g g' g'':Nat->iU}(h:kG st w w' g g')(h':kG st w' w'' g' g''):kG st w w'' g g'':=by
 refine⟨h'.os.trans h.os,h'.tape.trans h.tape,⟨h'.output.1.trans h.output.1,Nat.le_trans h.output.2 h'.output.2⟩,Nat.le_trans h.size h'.size,λb hb=> ?_⟩;have h1:=h.afP b hb;have h2:=h'.afP b (Nat.lt_of_lt_of_le hb h.size);cases hg:g b with
 |free=>
  rw[hg]at h1;simp only at h1 ⊢;rw[h1.1]at h2;simp only at h2;exact⟨h2.1,h2.2.trans h1.2⟩
 |own o k=>
  cases o with
  |dX=>
   rw[hg]at h1;simp only at h1 ⊢;rw[h1.1]at h2;simp only at h2;exact⟨h2.1,h2.2.trans h1.2⟩
  |id i=>
   rw[hg]at h1;simp only at h1 ⊢;obtain⟨aGk,aTR⟩:=h1;rcases aGk with aGk | ⟨rfl,aGk⟩ | ⟨i',k',aGk,hk⟩
   ·rw[aGk]at h2;simp only at h2;exact⟨.inl h2.1,λoff v ho hv=>by
     have:=aTR off v ho hv;simpa only[eL,h2.2]using this⟩
   ·refine⟨.inr (.inl ⟨rfl,?_⟩),λoff v ho=>absurd ho (jG _)⟩;rcases aGk with aGk | aGk
    ·rw[aGk]at h2;simp only at h2;exact h2.imp And.left And.right
    ·rw[aGk]at h2;simp only at h2;exact .inr h2.1
   ·rw[aGk]at h2;simp only at h2;refine⟨?_,λoff v ho hv=>h2.2 off v au (aTR off v ho hv)⟩;rcases h2.1 with aSv | ⟨h0,aSv⟩ | ⟨i'',k'',aSv,hk'⟩
    ·exact .inl aSv
    ·exact .inr (.inl ⟨au,aSv⟩)
    ·exact .inr (.inr ⟨i'',k'',aSv,au⟩)
 |fresh=>
  rw[hg]at h1;simp only at h1 ⊢;rcases h1 with⟨h1,aTR⟩ | ⟨hs,h1⟩
  ·rw[h1]at h2;simp only at h2;exact h2.imp (λx=>⟨x.1,x.2.trans aTR⟩) id
  ·rw[h1]at h2;simp only at h2;exact .inr ⟨hs,h2.1⟩
 |gD=>
  rw[hg]at h1;simp only at h1 ⊢;rw[h1.1]at h2;simp only at h2;refine⟨h2.1,λcur e hc=> ?_⟩;obtain⟨c1,h3,h4⟩:=h1.2 cur e hc;obtain⟨c2,h5,h6⟩:=h2.2 c1 e h3;exact⟨c2,h5,h6.trans h4⟩
theorem Trans.trans{w w' w'':World}{g g' g'':Nat->iU}(h:Trans w w' g g')(h':Trans w' w'' g' g''):Trans w w'' g g'':=kG.trans h h'
theorem kG.aMF{st:Bool}{E E':Env}(h:kG st E.w E'.w E.g E'.g):vd E E':=by
 refine⟨?_,λb ob hf ho=>by
  have h1:=h.afP b (cE.1 ho).1;rw[hf]at h1;exact⟨h1.1,h1.2.trans ho⟩,λb cur e hf ho=>by
  have h1:=h.afP b (cE.1 ho).1;rw[hf]at h1;exact⟨h1.1,h1.2 cur e ho⟩⟩
 intro b off v ⟨hc,ho⟩;have hb:b < E.w.heap.size:=World.block_lt_of_cell? _ _ hc;have h1:=h.afP b hb;unfold Env.has ku at*;cases hg:E.g b with
 |free=>
  rw[hg]at h1;simp only at h1;refine⟨?_,by rw[h1.1];trivial⟩;simpa only[eL,h1.2]using hc
 |own o k=>
  rw[hg]at ho;simp only at ho;cases o with
  |dX=>
   rw[hg]at h1;simp only at h1;refine⟨?_,by rw[h1.1];exact ho⟩;simpa only[eL,h1.2]using hc
  |id i=>
   rw[hg]at h1;simp only at h1;refine⟨h1.2 off v ho hc,?_⟩;rcases h1.1 with h2 | ⟨h2,_⟩ | ⟨i',k',h2,hk⟩
   ·rw[h2];trivial
   ·omega
   ·rw[h2];show off < k';omega
 |fresh=>rw[hg]at ho;exact ho.elim
 |gD=>rw[hg]at ho;exact ho.elim
theorem Trans.mem{E E':Env}(h:Trans E.w E'.w E.g E'.g):zB E E':=
 ⟨kG.aMF h,λb ob hf ho=>by
  have h1:=h.afP b (cE.1 ho).1;rw[hf]at h1;rcases h1 with h1 | h1
  ·exact⟨h1.1,h1.2.trans ho⟩
  ·cases h1.1⟩
theorem Hj.mono{E E':Env}(h:cM E E'){f:aA}{tmps:Array Value}(hs:Hj E f tmps):Hj E' f tmps:=⟨hs.1,λi=>(hs.2 i).mono h⟩
theorem xo.aO2{E E':Env}(h:cM E E'){id:Id}{fr:Bool}{c:aA}(ho:xo E id fr c)(hβ:E'.β id=E.β id)
    (hb:∀pl,E.β id=aj pl->E'.w.heap[pl.b]? =E.w.heap[pl.b]? /\E'.g pl.b=E.g pl.b)
    (hq:∀q ver k v l,(∃kt vt rest cu,c= .rW q (ver+1) kt vt rest cu)->E.s q=aj (.obj ver aL (.mp k v l))->E'.cur q ver->(∃k v l,E'.s q=aj (.obj ver aL (.mp k v l)))/\∀pl,E.β q=aj pl->E'.w.heap[pl.b]? =E.w.heap[pl.b]? /\E'.g pl.b=E.g pl.b):xo E' id fr c:=by
  by_cases hn:c.iD=aS
  · obtain⟨pl,cur,e,h1,h2,h3,h5,h4⟩:=ho.box hn
    exact Nw.obj ⟨pl,cur,e,by grind,by grind,by grind,h5,h4.mono h⟩
  · cases c <;> first
      | (exact absurd rfl hn)
      | (obtain⟨pl,r,h1,h2,h3,h4,h5,h6⟩:=ho
         exact⟨pl,r,by grind,by grind,by grind,h4,h5.mono h,h6⟩)
      | (obtain⟨pl,es,clock,h1,h2,h3,h4⟩:=ho
         exact⟨pl,es,clock,by grind,by grind,by grind,⟨h4.1.1.mono h.mem,h4.1.2⟩,h4.2⟩)
      | (obtain⟨pl,mb,since,seen,c0,h1,h2,h3,hv⟩:=ho
         refine⟨pl,mb,since,seen,c0,by grind,by grind,by grind,λvr ain=> ?_⟩;obtain⟨h4,h5⟩:=hv vr ain;refine⟨h.Ct _ _ h4,λhc=> ?_⟩;obtain⟨c1,e1⟩:=h.cur _ _ h4 hc;obtain⟨⟨k,v,l,hk⟩,plq,es,clock,g1,g2,g3,g4,g5,g6,g7,g8,g9⟩:=h5 c1;obtain⟨q1,q2⟩:=hq _ _ _ _ _ ⟨_,_,_,_,by rw[ain]⟩ hk hc;exact⟨q1,plq,es,clock,by grind,g2,by grind,by grind,g5,g6,g7,g8.mono h.mem,λx hx=>
           let⟨e,se,a1,a2,a3,a4⟩:=g9 x hx
           ⟨e,se,a1,a2,a3,a4.mono h.mem⟩⟩)
      |skip
    obtain⟨hz,ho⟩:=ho;refine⟨hz,?_⟩;rw[hβ];cases hp:E.β id with
    |none=>grind
    |some pl=>
      rw[hp]at ho;obtain⟨cur,k,h1,h2,h3,h4,h5,h6,h7,h8⟩:=ho;exact⟨cur,k,by grind,h2,h3,h4,by grind,h6,h7,h8.mono λc x hx=>hx.mono h.mem⟩
theorem xo.mono{E E':Env}(h:cM E E'){id:Id}{fr:Bool}{c:aA}(ho:xo E id fr c)(hβ:E'.β id=E.β id)(hb:∀pl,E.β id=aj pl->E'.w.heap[pl.b]? =E.w.heap[pl.b]? /\E'.g pl.b=E.g pl.b)(hq:∀q ver k v l,E.s q=aj (.obj ver aL (.mp k v l))->E'.cur q ver->(∃k v l,E'.s q=aj (.obj ver aL (.mp k v l)))/\∀pl,E.β q=aj pl->E'.w.heap[pl.b]? =E.w.heap[pl.b]? /\E'.g pl.b=E.g pl.b):xo E' id fr c:=ho.aO2 h hβ hb λq ver k v l _=>hq q ver k v l
def AS.env(s:AS)(w:World)(g:Nat->iU)(β:Id->Option Pl):Env:= {w,g,β,s:=s.bT}
structure Ctx where
 E:Env
def Ctx.ok(C:Ctx):Prop:=(∀i j,C.E.s (.new i j)=aF)/\∀k v fr c,C.E.s (.bW k)=aj (.obj v fr c)->v=0
def wx(D:Nat):Deferred:= {target:= .collected D,args:= #[]}
def aw6(n:Nat)(ds:List Deferred)(w:World)(g:Nat->iU):Prop:=ds.Nodup/\∀d∈ds,∃D,d=wx D/\n<=D/\w.heap[D]? =aj (.deferred (aj []))/\g D= .own .dX 0
theorem aw6.mono{n:Nat}{ds:List Deferred}{w w':World}{g g':Nat->iU}(h:aw6 n ds w g)(ht:Trans w w' g g'):aw6 n ds w' g':=
 ⟨h.1,λd hd=>by
  obtain⟨D,h1,h2,h3,h4⟩:=h.2 d hd;have:=ht.afP D (cE.1 h3).1;grind⟩
structure Inv(C:Ctx)(g:Nat->iU)(β:Id->Option Pl)(s:AS)(a:Act)(w:World):Prop where
 defers:aw6 C.E.w.heap.size a.defers w g
 size:a.tmps.size=s.bZ.length
 bZ:∀i,VS (s.env w g β) (s.slot i) (a.tmps.getD i undef)
 bu:iL (s.env w g β)
 trans:kG aS C.E.w w C.E.g g
 le:CI C.E (s.env w g β)
def gh(C:Ctx)(s:AS)(a:Act)(w:World):Prop:=∃g β,Inv C g β s a w
theorem aeL(s:AS)(d:Nat)(v:aA)(i:Nat):(s.put (aj d) v).slot i=if i=d/\d < s.bZ.length then v else s.slot i:=by grind [AS.put,AS.slot]
@[simp] theorem R6(s:AS)(d:Option Tmp)(v:aA):(s.put d v).bT=s.bT:=by cases d <;> rfl
@[simp] theorem axK(s:AS)(d:Option Tmp)(v:aA)(w:World)(g:Nat->iU)(β:Id->Option Pl):(s.put d v).env w g β=s.env w g β:=by simp[AS.env]
theorem asi(a:Act)(d:Nat)(v:Value)(i:Nat):(a.put (aj d) v).tmps.getD i undef=if i=d/\d < a.tmps.size then v else a.tmps.getD i undef:=by simp[Act.put];grind
theorem Inv.put{C:Ctx}{g:Nat->iU}{β:Id->Option Pl}{s:AS}{a:Act}{w:World}(h:Inv C g β s a w)(d:Option Tmp){v:aA}{x:Value}(hv:VS (s.env w g β) v x):
  Inv C g β (s.put d v) (a.put d x) w:=by
 cases d with
 |none=>exact h
 |some d=>
  refine⟨h.defers,by simpa[Act.put,AS.put]using h.size,λi=> ?_,by simpa using h.bu,h.trans,by simpa using h.le⟩;rw[aeL,asi,h.size];split
  ·exact hv
  ·exact h.bZ i
theorem Inv.step{C:Ctx}{g g':Nat->iU}{β β':Id->Option Pl}{s s':AS}{a:Act}{w w':World}(h:Inv C g β s a w)(hs:s'.bZ=s.bZ)
  (ht:Trans w w' g g') (he:cM (s.env w g β) (s'.env w' g' β')) (ho:iL (s'.env w' g' β')):Inv C g' β' s' a w':=
 ⟨h.defers.mono ht,by rw[hs];exact h.size,λi=>by
  have:s'.slot i=s.slot i:=by simp[AS.slot,hs]
  rw[this];exact(h.bZ i).mono he,ho,h.trans.trans ht.aTK,h.le.trans he.l0⟩
theorem aEx{E:Env}(v:Value):VS E (ofConst v) v:=by
 cases v with
 |bool b=>exact⟨_,by simp[ofConst,V,cn],rfl⟩
 |int k n=>exact⟨_,by simp[ofConst,V,cn],rfl⟩
 |string s=>exact⟨_,by simp[ofConst,V,cn],rfl⟩
 |slice a l c=>cases a with
  |none=>
   cases l with
   |zero=>cases c with
    |zero=>exact⟨_,by simp[ofConst,V],rfl⟩
    |succ _=>trivial
   |succ _=>trivial
  |some _=>trivial
 |pointer a=>cases a with
  |none=>exact⟨_,by simp[ofConst,V],rfl⟩
  |some _=>trivial
 |map r=>cases r with
  |none=>exact⟨_,by simp[ofConst,V],rfl⟩
  |some _=>trivial
 |nilFunc=>exact⟨_,by simp[ofConst,V],rfl⟩
 |_=>trivial
theorem Inv.ev{C:Ctx}{g:Nat->iU}{β:Id->Option Pl}{s:AS}{a:Act}{w:World}(h:Inv C g β s a w)(x:bB):VS (s.env w g β) (s.ev x) (a.eval x):=by
 cases x with
 |tmp t=>exact h.bZ t
 |const v=>exact aEx v
 |func f=>exact⟨_,by exact⟨[],rfl,by simp[VC]⟩,rfl⟩
 |global _=>trivial
theorem eh(s:AS)(id:Id)(e:dT)(h:s.bT id≠aF):(s.ba id e).bT id=aj e:=by
 cases id with
 |bW k=>
  grind [AS.bT,AS.ba]
 |new i j=>
  grind [AS.bT,AS.ba]
theorem cQ(s:AS)(id id':Id)(e:dT)(h:id'≠id):(s.ba id e).bT id'=s.bT id':=by
 cases id with
 |bW k=>
  cases id' with
  |bW k'=>
   simp only[AS.bT,AS.ba];rw[lK (λe=>h (by rw[e]))]
  |new i j=>rfl
 |new i j=>
  cases id' with
  |bW k'=>rfl
  |new i' j'=>
   simp only[AS.bT,AS.ba];by_cases hi:i'=i
   ·subst hi;have hj:j≠j':=λe=>h (by rw[e])
    by_cases hl:i' < s.news.length
    ·have:((s.news.set i' ((s.news.getD i' []).set j e)).getD i' [])=(s.news.getD i' []).set j e:=by simp[bS,hl]
     rw[this,lK hj]
    ·rw[List.set_eq_of_length_le au]
   ·have:(s.news.set i ((s.news.getD i []).set j e)).getD i' []=s.news.getD i' []:=by simp only[bS];rw[lK (Ne.symm hi)]
    rw[this]
@[simp] theorem cZ(s:AS)(id:Id)(e:dT):(s.ba id e).bZ=s.bZ:=by cases id <;> rfl
@[simp] theorem aRh(s:AS)(i:Nat)(es:List dT):(s.born i es).bZ=s.bZ:=rfl
theorem dI{s:AS}{id:Id}{v:Nat}{fr:Bool}{c:aA}(h:s.obj id=aj (v,fr,c)):s.bT id=aj (.obj v fr c):=by grind [AS.obj]
theorem cM.ba{s:AS}{w w':World}{g g':Nat->iU}{β β':Id->Option Pl}{id:Id}{v v':Nat}{fr fr':Bool}{c c':aA}(hs:s.bT id=aj (.obj v fr c))(hv:v<=v')
  (ht:Trans w w' g g') (hβ:∀i,i≠id->β' i=β i) (hβ':v'=v->β' id=β id):cM (s.env w g β) ((s.ba id (.obj v' fr' c')).env w' g' β'):=by
 have qK:=eh s id (.obj v' fr' c') (by grind);refine⟨Trans.mem ht,λi ver hb=> ?_,λi ver hb hc=> ?_⟩
 ·by_cases hi:i=id
  ·subst hi;obtain⟨_,h2⟩:=hb;refine⟨by show(s.ba i (.obj v' fr' c')).bT i≠aF;grind,λv'' fr'' c'' he=> ?_⟩;have he':(s.ba i (.obj v' fr' c')).bT i=aj (.obj v'' fr'' c''):=he;rw[qK]at he';simp at he';have:=h2 v fr c hs;omega
  ·have:=cQ s id i (.obj v' fr' c') hi;obtain⟨h1,h2⟩:=hb;exact⟨by show(s.ba id (.obj v' fr' c')).bT i≠aF;rw[this];exact h1,λv'' fr'' c'' he=>h2 v'' fr'' c'' (this.symm.trans he)⟩
 ·obtain⟨fr'',c'',hc⟩:=hc;by_cases hi:i=id
  ·subst hi;have hc':(s.ba i (.obj v' fr' c')).bT i=aj (.obj ver fr'' c''):=hc;rw[qK]at hc';simp at hc';have h2:=hb.2 v fr c hs;have e:v'=v:=au;refine⟨⟨fr,c,?_⟩,hβ' e⟩;rw[<-hc'.1,e];exact hs
  ·have hc':(s.ba id (.obj v' fr' c')).bT i=aj (.obj ver fr'' c''):=hc;rw[cQ s id i _ hi]at hc';exact⟨⟨fr'',c'',hc'⟩,hβ i hi⟩
theorem iL.ba{s:AS}{w w':World}{g g':Nat->iU}{β β':Id->Option Pl}{id:Id}{v':Nat}{fr':Bool}{c':aA}(h:iL (s.env w g β))(kJ:s.bT id≠aF)
  (he:cM (s.env w g β) ((s.ba id (.obj v' fr' c')).env w' g' β')) (hβ:∀i,i≠id->β' i=β i)
  (hb:∀i ver fr c pl,i≠id->s.bT i=aj (.obj ver fr c)->β i=aj pl->w'.heap[pl.b]? =w.heap[pl.b]? /\g' pl.b=g pl.b)
  (ho:xo ((s.ba id (.obj v' fr' c')).env w' g' β') id fr' c')
  (Zn:∀ver k v l,s.bT id=aj (.obj ver aL (.mp k v l))->v'=ver/\fr'=aL/\(∃k v l,c'= .mp k v l)/\∀pl,β id=aj pl->w'.heap[pl.b]? =w.heap[pl.b]? /\g' pl.b=g pl.b):iL ((s.ba id (.obj v' fr' c')).env w' g' β'):=by
 intro i ver fr c hi;by_cases dy:i=id
 ·subst dy;have hi':(s.ba i (.obj v' fr' c')).bT i=aj (.obj ver fr c):=hi;grind [eh]
 ·have hi':(s.ba id (.obj v' fr' c')).bT i=aj (.obj ver fr c):=hi;rw[cQ s id i _ dy]at hi';refine(h i ver fr c hi').mono he (hβ i dy) (λpl hp=>hb i ver fr c pl dy hi' hp) λq vq k v l hq hc=> ?_
  have hq:s.bT q=aj (.obj vq aL (.mp k v l)):=hq;by_cases aWT:q=id
  ·subst aWT;obtain⟨rfl,rfl,⟨k',v',l',rfl⟩,aQa⟩:=Zn _ _ _ _ hq;exact⟨⟨k',v',l',eh s q _ kJ⟩,aQa⟩
  ·exact⟨⟨k,v,l,by show(s.ba id _).bT q=_;grind [cQ]⟩,λpl hp=>hb q vq aL _ pl aWT hq hp⟩
theorem Z6{s:AS}{w:World}{g:Nat->iU}{β:Id->Option Pl}{id:Id}{v:Nat}{fr:Bool}{c:aA}(hs:s.bT id=aj (.obj v fr c)):
  ∀ver k v1 l,s.bT id=aj (.obj ver aL (.mp k v1 l))->v=ver/\aL=aL/\(∃k v l,c= .mp k v l)/\∀pl,β id=aj pl->w.heap[pl.b]? =w.heap[pl.b]? /\g pl.b=g pl.b:=λver k v1 l hl=>by
 grind
theorem oG{s:AS}{id:Id}{v:Nat}{fr:Bool}{c:aA}(hs:s.bT id=aj (.obj v fr c))(hc:∀k v1 l,c≠ .mp k v1 l){Q:Nat->Prop}:
  ∀ver k v1 l,s.bT id=aj (.obj ver aL (.mp k v1 l))->Q ver:=λver k v1 l hl=>by
 rw[hs]at hl;cases hl;exact absurd rfl (hc _ _ _)
theorem Z5{s:AS}{id:Id}{v:Nat}{c:aA}(hs:s.bT id=aj (.obj v aS c)){Q:Nat->Prop}:
  ∀ver k v1 l,s.bT id=aj (.obj ver aL (.mp k v1 l))->Q ver:=λver k v1 l hl=>by
 grind
theorem DX{s:AS}{id:Id}{v:Nat}{fr:Bool}{c:aA}(hs:s.bT id=aj (.obj v fr c))(h:s.xm id=aL):fr=aS:=by grind [AS.obj,AS.xm]
theorem xo.label{E:Env}{id:Id}{fr:Bool}{c:aA}(h:xo E id fr c){pl:Pl}(hp:E.β id=aj pl):
    pl.b < E.w.heap.size/\((∃k,E.g pl.b= .own (.id id) k)\/(fr=aL/\E.g pl.b= .free)):=by
  by_cases hn:c.iD=aS
  · obtain⟨pl',cur,e,h1,h2,h3,h4⟩:=h.box hn
    obtain rfl:pl=pl':=by grind
    refine⟨(cE.1 h2).1,?_⟩;cases fr with
    |true=>exact .inr ⟨rfl,h3⟩
    |false=>exact .inl ⟨0,h3⟩
  · cases c <;> first
      | (exact absurd rfl hn)
      | (obtain⟨pl',r,h1,h2,h3,_,_,_⟩:=h
         grind)
      | (grind)
      | (grind)
      |skip
    obtain⟨_,h⟩:=h;grind
def mQ{α:Type}(f:Nat->α)(b:Nat)(x:α):Nat->α:=λb'=>if b'=b then x else f b'
@[simp] theorem fV{α:Type}(f:Nat->α)(b:Nat)(x:α):mQ f b x b=x:=by simp[mQ]
theorem gZ{α:Type}(f:Nat->α)(b:Nat)(x:α){b':Nat}(h:b'≠b):mQ f b x b'=f b':=by grind [mQ]
def Xr:aA->Nat->Prop
 | .vec _ t l,j=>j < l.length*t.size
 |_,_=>True
theorem Xr.of{c:aA}(h:c.iD=aS)(j:Nat):Xr c j:=by cases c <;> first | trivial | (simp at h)
theorem aE6{w:World}{b:Nat}{es:Array fq}{clock:Nat}(h:w.heap[b]? =aj (.map es clock))(j:Nat):w.cell? ⟨b,j,aF⟩=aF:=by simp[eL,h]
theorem Sc{C:Ctx}{g:Nat->iU}{β:Id->Option Pl}{s:AS}{a:Act}{w:World}(h:Inv C g β s a w)(id:Id):
    ∃g',Inv C g' β (s.freeze id) a w/\cM (s.env w g β) ((s.freeze id).env w g' β)/\Trans w w g g'/\
      (∀v fr c,s.bT id=aj (.obj v fr c)->∀pl,β id=aj pl->∀j x,w.cell? ⟨pl.b,j,aF⟩=aj x->
        Xr c j->ku g' pl.b j):=by
  unfold AS.freeze;cases hs:s.bT id with
  |none=>exact⟨g,h,cM.refl _,Trans.refl _ _,λ_ _ _ hh=>by cases hh⟩
  |some e=>
    cases e with
    |dead=>exact⟨g,h,cM.refl _,Trans.refl _ _,λ_ _ _ hh=>by cases hh⟩
    |obj v fr c=>
      simp only;have mw:xo (s.env w g β) id fr c:=h.bu id v fr c hs;cases hp:β id with
      |none=>
        have ht:=Trans.refl w g;have he:cM (s.env w g β) ((s.ba id (.obj v aL c)).env w g β):=cM.ba hs (aB _) ht (λ_ _=>rfl) (λ_=>rfl);refine⟨g,h.step (cZ _ _ _) ht he ?_,he,ht,λ_ _ _ _ pl P2=>by cases P2⟩;refine iL.ba h.bu (by rw[hs];simp) he (λ_ _=>rfl) (λ_ _ _ _ _ _ _ _=>⟨rfl,rfl⟩) ?_ (Z6 hs)
        by_cases hn:c.iD=aS
        · obtain⟨pl,_,_,h1,_⟩:=mw.box hn
          have h1':β id=aj pl:=h1;rw[hp]at h1';cases h1'
        · cases c <;> first
            | (exact absurd rfl hn)
            | (obtain⟨pl,_,h1,_⟩:=mw
               have h1':β id=aj pl:=h1;rw[hp]at h1';cases h1')
            | (obtain⟨pl,_,_,h1,_⟩:=mw
               have h1':β id=aj pl:=h1;rw[hp]at h1';cases h1')
            | (obtain⟨pl,_,_,_,_,h1,_⟩:=mw
               have h1':β id=aj pl:=h1;rw[hp]at h1';cases h1')
            |skip
          obtain⟨hz,ho⟩:=mw;have ho':(match β id with
            |none=>_
            |some pl=>_):=ho
          refine⟨hz,?_⟩;show(match β id with
            |none=>_
            |some pl=>_)
          rw[hp]at ho' ⊢;exact ho'
      |some pl=>
        have Vo:=mw.label (pl:=pl) hp;by_cases hn:c.iD=aS
        · obtain⟨pl',cur,e,h1,h2,h3,h5,h4⟩:=mw.box hn
          have h1':β id=aj pl':=h1;rw[hp]at h1';obtain rfl:pl=pl':=by simpa using h1'
          have h3':g pl.b=as4 id fr:=h3;have ht:Trans w w g (mQ g pl.b .free):=by
            refine⟨rfl,rfl,⟨rfl,aB _⟩,aB _,λb hb=> ?_⟩;by_cases afX:b=pl.b
            · subst afX
              rw[h3',fV];cases fr with
              |true=>exact⟨rfl,rfl⟩
              |false=>exact⟨.inl rfl,λ_ _ _ hh=>hh⟩
            · rw[gZ _ _ _ afX]
              exact(Trans.refl w g).afP b hb
          have he:cM (s.env w g β) ((s.ba id (.obj v aL c)).env w (mQ g pl.b .free) β):=cM.ba hs (aB _) ht (λ_ _=>rfl) (λ_=>rfl);refine⟨mQ g pl.b .free,h.step (cZ _ _ _) ht he ?_,he,ht,?_⟩
          · refine iL.ba h.bu (by rw[hs];simp) he (λ_ _=>rfl) (λi ver fr' c' pl' hi di P2=>⟨rfl,?_⟩) ?_ (oG hs λk v1 l e=>by rw[e]at hn;simp[aA.iD]at hn)
            · by_cases afX:pl'.b=pl.b
              · rw[afX,fV]
                have hl:=(h.bu i ver fr' c' di).label (pl:=pl') P2;have afZ:(∃k,g pl'.b= .own (.id i) k)\/(fr'=aL/\g pl'.b= .free):=hl.2;rw[afX,h3']at afZ;cases fr with
                |true=>exact h3'.symm▸rfl
                |false=>
                  exfalso;rcases afZ with⟨k,hk⟩ | ⟨_,hk⟩
                  · simp only[as4,iU.own.injEq,Own.id.injEq]at hk
                    exact hi hk.1.symm
                  · cases hk
              · rw[gZ _ _ _ afX]
            · exact Nw.obj ⟨pl,cur,e,hp,h2,fV _ _ _,h5,V.mono he h4⟩
          · intro v1 fr1 c1 hh pl1 akL j x hx hj
            obtain rfl:pl=pl1:=by simpa using akL
            unfold ku;rw[fV];trivial
        · cases c <;> first | (exact absurd rfl hn) | skip
          rotate_left;rotate_left
          · rename_i q vq kt vt rest cu
            have ht:=Trans.refl w g;have he:cM (s.env w g β) ((s.ba id (.obj v aL (.rW q vq kt vt rest cu))).env w g β):=cM.ba hs (aB _) ht (λ_ _=>rfl) (λ_=>rfl);have hob':=mw;obtain⟨pl',mb,since,seen,c0,h1,h2,_⟩:=mw;have h1':β id=aj pl':=h1;rw[hp]at h1';obtain rfl:pl=pl':=by simpa using h1'
            refine⟨g,h.step (cZ _ _ _) ht he ?_,he,ht,λ_ _ _ _ pl1 akL j x hx _=> ?_⟩
            · refine iL.ba h.bu (by rw[hs];simp) he (λ_ _=>rfl) (λ_ _ _ _ _ _ _ _=>⟨rfl,rfl⟩) ?_ (Z6 hs)
              exact xo.mono he (fr:=aL) hob' rfl (λ_ _=>⟨rfl,rfl⟩) λq2 v2 k2 v3 l2 Vp _=>⟨⟨k2,v3,l2,by
                have Vp:s.bT q2=aj (.obj v2 aL (.mp k2 v3 l2)):=Vp;have kJ:q2≠id:=λe=>by rw[e,hs]at Vp;cases Vp
                show(s.ba id _).bT q2=_;rw[cQ s id q2 _ kJ];exact Vp⟩,λ_ _=>⟨rfl,rfl⟩⟩
            · obtain rfl:pl=pl1:=by simpa using akL
              have h2:w.heap[pl.b]? =aj (.mapIter (aj mb) since seen c0):=h2
              simp[eL,h2]at hx
          · rename_i k f p
            have ht:=Trans.refl w g;have he:cM (s.env w g β) ((s.ba id (.obj v aL (.Ay k f p))).env w g β):=cM.ba hs (aB _) ht (λ_ _=>rfl) (λ_=>rfl);obtain⟨pl',r,h1,h2,h3,h4,h5,h6⟩:=mw;have h1':β id=aj pl':=h1;rw[hp]at h1';obtain rfl:pl=pl':=by simpa using h1'
            refine⟨g,h.step (cZ _ _ _) ht he ?_,he,ht,λ_ _ _ _ pl1 akL j x hx _=> ?_⟩
            · exact iL.ba h.bu (by rw[hs];simp) he (λ_ _=>rfl) (λ_ _ _ _ _ _ _ _=>⟨rfl,rfl⟩) ⟨pl,r,hp,h2,h3,h4,h5.mono he,h6⟩ (Z6 hs)
            · obtain rfl:pl=pl1:=by simpa using akL
              have h2:w.heap[pl.b]? =aj (.loop r):=h2
              simp[eL,h2]at hx
          rotate_left
          · obtain⟨pl',es,clock,h1,h2,h3,h4⟩:=mw
            have h1':β id=aj pl':=h1;rw[hp]at h1';obtain rfl:pl=pl':=by simpa using h1'
            have ht:=Trans.refl w g;rename_i kt vt l;have he:cM (s.env w g β) ((s.ba id (.obj v aL (.mp kt vt l))).env w g β):=cM.ba hs (aB _) ht (λ_ _=>rfl) (λ_=>rfl);refine⟨g,h.step (cZ _ _ _) ht he ?_,he,ht,λ_ _ _ _ pl1 akL j x hx _=> ?_⟩
            · exact iL.ba h.bu (by rw[hs];simp) he (λ_ _=>rfl) (λ_ _ _ _ _ _ _ _=>⟨rfl,rfl⟩) ⟨pl,es,clock,hp,h2,h3,⟨h4.1.1.mono he.mem,h4.1.2⟩,h4.2⟩ (Z6 hs)
            · obtain rfl:pl=pl1:=by simpa using akL
              have h2:w.heap[pl.b]? =aj (.map es clock):=h2
              rw[aE6 h2]at hx;cases hx
          rename_i e t l;obtain⟨hz,ho⟩:=mw;have ho':(match β id with
            |none=>l=[]
            |some pl=>∃cur k,w.heap[pl.b]? =aj (.cells cur e (0,0))/\cur.size=pl.cap*t.size/\l.length<=pl.cap/\pl.cap<=maxLen/\g pl.b= .own (.id id) k/\
                k<=l.length*t.size/\(fr=aS->k=0)/\bo (cn (s.env w g β) t) (cur.toList.take (l.length*t.size)) l):=ho
          rw[hp]at ho';obtain⟨cur,k,h1,h2,h3,h4,h5,h6,h7,h8⟩:=ho';have ht:Trans w w g (mQ g pl.b (.own (.id id) (l.length*t.size))):=by
            refine⟨rfl,rfl,⟨rfl,aB _⟩,aB _,λb hb=> ?_⟩;by_cases afX:b=pl.b
            · subst afX
              rw[h5,fV];exact⟨.inr (.inr ⟨id,_,rfl,h6⟩),λ_ _ _ hh=>hh⟩
            · rw[gZ _ _ _ afX]
              exact(Trans.refl w g).afP b hb
          have he:cM (s.env w g β) ((s.ba id (.obj v aL (.vec e t l))).env w (mQ g pl.b (.own (.id id) (l.length*t.size))) β):=cM.ba hs (aB _) ht (λ_ _=>rfl) (λ_=>rfl);refine⟨_,h.step (cZ _ _ _) ht he ?_,he,ht,?_⟩
          · refine iL.ba h.bu (by rw[hs];simp) he (λ_ _=>rfl) (λi ver fr' c' pl' hi di P2=>⟨rfl,?_⟩) ?_ (oG hs λk v1 l e=>by cases e)
            · by_cases afX:pl'.b=pl.b
              · exfalso
                have hl:=(h.bu i ver fr' c' di).label (pl:=pl') P2;have afZ:(∃k,g pl'.b= .own (.id i) k)\/(fr'=aL/\g pl'.b= .free):=hl.2;rw[afX,h5]at afZ;rcases afZ with⟨k,hk⟩ | ⟨_,hk⟩
                · simp only[iU.own.injEq,Own.id.injEq]at hk
                  exact hi hk.1.symm
                · cases hk
              · rw[gZ _ _ _ afX]
            · refine⟨hz,?_⟩
              show(match β id with
                |none=>l=[]
                |some pl=>_)
              rw[hp];exact⟨cur,_,h1,h2,h3,h4,fV _ _ _,aB _,(by intro hh;cases hh),h8.mono λc x hx=>hx.mono he.mem⟩
          · intro v1 fr1 c1 hh pl1 akL j x hx hj
            obtain rfl:pl=pl1:=by simpa using akL
            simp only[bf,dT.obj.injEq]at hh;obtain⟨_,_,rfl⟩:=hh;unfold ku;rw[fV];exact hj
end Go.Ab
namespace Go.Ab
def aRE(E E':Env)(ids:List Id):Prop:=∀id∈ids,∀v fr c,E.s id=aj (.obj v fr c)->∀pl,E.β id=aj pl->∀j x,E.w.cell? ⟨pl.b,j,aF⟩=aj x->Xr c j->E'.has pl.b j x
theorem abe{s:AS}{id i:Id}{v:Nat}{fr:Bool}{c:aA}(h:s.bT i=aj (.obj v fr c)):∃fr',(s.freeze id).bT i=aj (.obj v fr' c):=by grind [AS.freeze,eh,cQ]
theorem fa{C:Ctx}{β:Id->Option Pl}{a:Act}{w:World}:∀(ids:List Id) {g:Nat->iU} {s:AS},Inv C g β s a w->
  ∃g',Inv C g' β (s.bj ids) a w/\cM (s.env w g β) ((s.bj ids).env w g' β)/\Trans w w g g'/\aRE (s.env w g β) ((s.bj ids).env w g' β) ids
 |[],g,s,h=>⟨g,h,cM.refl _,Trans.refl _ _,λ_ hi=>by cases hi⟩
 |id::ids,g,s,h=>by
  obtain⟨g1,h1,e1,t1,f1⟩:=Sc h id;obtain⟨g2,h2,e2,t2,f2⟩:=fa ids h1;refine⟨g2,h2,e1.trans e2,t1.trans t2,λi hi v fr c hs pl hp j x hx hj=> ?_⟩;rcases bI.1 hi with rfl | hi
  ·exact e2.mem.has _ _ _ ⟨hx,f1 v fr c hs pl hp j x hx hj⟩
  ·obtain⟨fr',hs'⟩:=abe (id:=id) hs;exact f2 i hi v fr' c hs' pl hp j x hx hj
theorem amO(s:AS)(id:Id):(s.freeze id).bZ=s.bZ:=by unfold AS.freeze;split <;> simp
theorem py:∀(ids:List Id) (s:AS),(s.bj ids).bZ=s.bZ
 |[],_=>rfl
 |id::ids,s=>by rw[AS.bj,py ids,amO]
theorem apU(s:AS)(id:Id)(q:Nat):(s.freeze id).dY q=s.dY q:=by
 unfold AS.freeze;split
 ·rename_i v b c h;cases id with
  |bW k=>rfl
  |new i j=>
   simp only[AS.ba,AS.dY];by_cases hq:i=q
   ·subst hq;simp only[AS.bT]at h;by_cases hl:i < s.news.length
    ·rw[List.getElem?_set_self hl,cm hl];rw[bS,cm hl]at h ⊢;simp only[eB]at h ⊢;cases hh:s.news[i]with
     |nil=>rw[hh]at h;simp at h
     |cons x xs=>cases j <;> simp[dZ]
    ·rw[List.set_eq_of_length_le au]
   ·rw[lK hq]
 ·rfl
theorem yt:∀(ids:List Id) (s:AS) (q:Nat),(s.bj ids).dY q=s.dY q
 |[],_,_=>rfl
 |id::ids,s,q=>by rw[AS.bj,yt ids,apU]
theorem ab0{e:TypeId}{t:Ty}:∀ {p:List Hk} {n:Nat} {v:aA},(loc (.vec e t []) p).eval=aj (n,v)->n=0/\v= .vec e t []
 |[],n,v,h=>by grind [loc,aw]
 | .arr::p,n,v,h=>by simp[loc]at h;exact ab0 h
 | .idx i::p,n,v,h=>by grind [loc,bP]
 | .fst::p,n,v,h=>by grind [loc,av]
 | .snd::p,n,v,h=>by grind [loc,av]
theorem Z9{k:xO}{f:aA}{m:Nat}:∀ {p:List Hk} {n:Nat} {v:aA},(loc (.Ay k f m) p).eval=aj (n,v)->n=0/\v= .Ay k f m
 |[],n,v,h=>by grind [loc,aw]
 | .arr::p,n,v,h=>by simp[loc]at h;exact Z9 h
 | .idx i::p,n,v,h=>by grind [loc,av]
 | .fst::p,n,v,h=>by grind [loc,av]
 | .snd::p,n,v,h=>by grind [loc,av]
theorem ak2{k t:Ty}{l:List (k.den×t.den)}:∀ {p:List Hk} {n:Nat} {v:aA},(loc (.mp k t l) p).eval=aj (n,v)->n=0/\v= .mp k t l
 |[],n,v,h=>by grind [loc,aw]
 | .arr::p,n,v,h=>by simp[loc]at h;exact ak2 h
 | .idx i::p,n,v,h=>by grind [loc,av]
 | .fst::p,n,v,h=>by grind [loc,av]
 | .snd::p,n,v,h=>by grind [loc,av]
theorem Z8{q:Id}{ver:Nat}{k t:Ty}{l:List (k.den×t.den)}{cu:Option (k.den×t.den)}:∀ {p:List Hk} {n:Nat} {v:aA},(loc (.rW q ver k t l cu) p).eval=aj (n,v)->n=0/\v= .rW q ver k t l cu
 |[],n,v,h=>by grind [loc,aw]
 | .arr::p,n,v,h=>by simp[loc]at h;exact Z8 h
 | .idx i::p,n,v,h=>by grind [loc,av]
 | .fst::p,n,v,h=>by grind [loc,av]
 | .snd::p,n,v,h=>by grind [loc,av]
theorem Wm{E:Env}{s:AS}(hs:E.s=s.bT)(ho:iL E){id:Id}{ver:Nat}{p:List Hk}{n:Nat}{t:Ty}{l:List t.den}(h:(s.row id ver p).eval=aj (n,⟨t,l⟩)):
    ∃fr c,E.s id=aj (.obj ver fr c)/\((E.β id=aF/\l=[]/\n=0)\/∃pl cur e,E.β id=aj pl/\E.w.heap[pl.b]? =aj (.cells cur e (0,0))/\n+l.length*t.size<=cur.size/\
      bo (cn E t) ((cur.toList.drop n).take (l.length*t.size)) l/\
      ∀j,j < n+l.length*t.size->Xr c j):=by
  unfold AS.row at h;cases mw:s.obj id with
  |none=>grind [av]
  |some r=>
    obtain⟨v,fr,c⟩:=r;rw[mw]at h;obtain⟨h1,h2⟩:=aD.1 h;obtain⟨⟨n',v'⟩,h3,h4⟩:=ay.1 h2;have hv:v=ver:=by grind
    subst hv;have di:E.s id=aj (.obj v fr c):=by rw[hs];grind [dI]
    refine⟨fr,c,di,?_⟩;have hO:=ho id v fr c di
    have aL4:∀(pl:Pl) (cur:Array Value) (e:TypeId) (m:Nat) (t':Ty) (l':List t'.den) (n':Nat),E.β id=aj pl->E.w.heap[pl.b]? =aj (.cells cur e (0,0))->c.iD=aS->
        V E (.d (.arr m t') l') ((cur.toList.drop n').take (aA.d (.arr m t') l').size)->n'+(aA.d (.arr m t') l').size<=cur.toList.length->(Out.ok (n',(⟨t',l'⟩:(t:Ty)×List t.den))).eval=aj (n,⟨t,l⟩)->
        ∃pl cur e,E.β id=aj pl/\E.w.heap[pl.b]? =aj (.cells cur e (0,0))/\n+l.length*t.size<=cur.size/\bo (cn E t) ((cur.toList.drop n).take (l.length*t.size)) l/\
          ∀j,j < n+l.length*t.size->Xr c j:=by
      grind [aw,V,cn,aA.size,Ty.size,Xr.of]
    by_cases hn:c.iD=aS
    · right
      obtain⟨pl,cur,e,hp,hh,hg,hk,hV⟩:=hO.box hn;have hN:=ajT hk;generalize c.v7 cur.size=N at hN hV;obtain⟨u,hu⟩:∃u,c.strip=u:=⟨_,rfl⟩;rw[hu]at hV h3;have aGm:∀m k:Nat,m+k<=(cur.toList.take N).length->((cur.toList.take N).drop m).take k=(cur.toList.drop m).take k/\m+k<=cur.toList.length:=λm k aKZ=>by grind [vW]
      rcases r9 p u (cur.toList.take N) n' v' (VO.of hV) h3 with⟨rfl,rfl⟩ | ⟨hV',hle⟩
      · cases v' with
        |d t' x=>cases t' with
          |arr m t'=>
            have hs:=hV.size;have hc:=aGm 0 (aA.d (.arr m t') x).size au;grind
          |_=>simp only[av]at h4
        |vec=>grind [V]
        |_=>simp only[av]at h4
      grind [av,V]
    · cases c <;> first
        | (exact absurd rfl hn)
        | (obtain⟨rfl,rfl⟩:=ak2 h3
           grind [av])
        | (obtain⟨rfl,rfl⟩:=Z8 h3
           grind [av])
        | (obtain⟨rfl,rfl⟩:=Z9 h3
           grind [av])
        |skip
      rename_i e t0 l0;obtain⟨hz,hO⟩:=hO;cases hp:E.β id with
      |none=>
        rw[hp]at hO;have aSW:l0=[]:=hO;subst aSW;obtain⟨rfl,rfl⟩:=ab0 h3;grind [aw]
      |some pl=>
        rw[hp]at hO;obtain⟨cur,k,q1,q2,q3,q4,q5,q6,q7,q8⟩:=hO;right;have hlen:=bo.length (λc x hx=>cn.size hx) q8;rcases r9 (E:=E) p (.vec e t0 l0) (cur.toList.take (l0.length*t0.size)) n' v' q8 h3 with⟨rfl,rfl⟩ | ⟨hV',hle⟩
        all_goals grind [aw,vW,V,cn,aA.size,Ty.size,av,Xr]
theorem Px{E:Env}{t:Ty}{cs:List Value}{l:List t.den}(h:bo (cn E t) cs l)(i len:Nat):bo (cn E t) ((cs.drop (i*t.size)).take (len*t.size)) (cut l i len):=bo.take (λ_ _ hx=>hx.size) len (bo.drop (λ_ _ hx=>hx.size) i h)
theorem HA{α:Type}{l:List α}{i len:Nat}(h:i+len<=l.length):(cut l i len).length=len:=by grind [cut]
theorem aeO{E E':Env}{s:AS}(hs:E.s=s.bT)(ho:iL E)(he:cM E E'){id:Id}{ver c i len n:Nat}{p:List Hk}{t':Ty}{l:List t'.den}{cs:List Value}
  (h1:(s.row id ver p).eval=aj (n,⟨t',l⟩)) (h3:decide (n+i*t'.size=c/\i+len<=l.length)=aL) (hv:V E (.cg id ver p c i len) cs) (hf:aRE E E' (aA.cg id ver p c i len).shared):cn E' (.slice t') cs (cut l i len):=by
 simp at h3;obtain⟨hc,hlen⟩:=h3;obtain⟨fr,c0,di,nL⟩:=Wm hs ho h1;obtain⟨a,cap,aL5,hle,AO,hb,iA⟩:=hv;have iA:=iA ⟨fr,c0,di⟩;have aVj:=HA hlen;refine⟨a,cap,?_⟩;rcases nL with⟨hp,hl,_⟩ | ⟨pl,cur,e,hp,hh,xr,zE,hbound⟩
 ·rw[hp]at iA;obtain⟨rfl,rfl,rfl⟩:=iA;refine⟨[],?_,au,au,λ_ _ hh=>by grind,?_⟩
  ·grind
  ·rfl
 ·rw[hp]at iA;refine⟨((((cur.toList.drop n).take (l.length*t'.size)).drop (i*t'.size)).take (len*t'.size)),by grind,au,by grind,?_,(Px zE i len).mono λ_ _ hx=>hx.mono he.mem⟩;have hmul:(i+len)*t'.size<=l.length*t'.size:=Nat.mul_le_mul_right _ hlen;rw[hP]at hmul;rw[ac1 _ _ _ _ _ hmul];intro j v hj;rw[dA]at hj;split at hj
  ·rw[hc]at hj;have aXU:0 < len:=by grind
   refine⟨pl.b,c,iA.1 (.inl aXU),?_⟩;refine hf id (by simp[aA.shared]) ver fr c0 di pl hp (c+j) v ?_ (hbound _ au)
   grind [cell_of_row]
  grind
theorem xh{E E':Env}{s:AS}(hs:E.s=s.bT)(ho:iL E)(he:cM E E'):∀(v:aA) (t:Ty) (x:t.den) (cs:List Value),V E v cs->(s.jd t v).eval=aj x->aRE E E' v.shared->cn E' t cs x
 | .d t' x',t,x,cs,hv,h,_=>by
  have h':(Out.opt (AM t' t x')).eval=aj x:=by cases t <;> simpa only[AS.jd]using h
  simp only[V]at hv;exact xP (gS.1 h') (hv.mono he.mem)
 | .cT,.slice t,x,cs,hv,h,_=>by simp only[AS.jd,aw]at h;subst h;simp only[V]at hv;simp only[cn];exact⟨aF,0,[],by simpa using hv,by simp,by simp,λi v hh=>by simp at hh,rfl⟩
 | .cT,.fx t,x,cs,hv,h,_=>by simp only[AS.jd,aw]at h;subst h;simp only[V]at hv;simp only[cn];exact⟨λ_=>hv,λl hl=>(by cases hl)⟩
 | .cg id ver p c i len,.fx t,x,cs,hv,h,hf=>by simp only[AS.jd]at h;obtain⟨⟨n,t',l⟩,h1,h2⟩:=ay.1 h;obtain⟨h3,h4⟩:=bP.1 h2;exact xP (gS.1 h4) (aeO hs ho he h1 h3 hv hf)
 | .cg id ver p c i len,.slice t,x,cs,hv,h,hf=>by simp only[AS.jd]at h;obtain⟨⟨n,t',l⟩,h1,h2⟩:=ay.1 h;obtain⟨h3,h4⟩:=bP.1 h2;exact xP (gS.1 h4) (aeO hs ho he h1 h3 hv hf)
 | .cT,.eP t,x,cs,hv,h,_=>by simp only[AS.jd,aw]at h;subst h;simp only[V]at hv;rw[hv];exact cn.aHF
 | .pr a b,.pair ta tb,x,cs,hv,h,hf=>by simp only[AS.jd]at h;obtain⟨x1,h1,h2⟩:=ay.1 h;obtain⟨x2,h3,h4⟩:=ay.1 h2;obtain rfl:=aw.1 h4;simp only[V]at hv;obtain⟨ca,cb,e,ha,hb⟩:=hv;simp only[cn];exact⟨ca,cb,e,xh hs ho he a ta x1 ca ha h1 (λi hi=>hf i (by simp[aA.shared,hi])),xh hs ho he b tb x2 cb hb h3 (λi hi=>hf i (by simp[aA.shared,hi]))⟩
 | .cT,.int _,_,_,_,h,_ | .cT,.bool,_,_,_,h,_ | .cT,.str,_,_,_,h,_ | .cT,.unit,_,_,_,h,_ | .cT,.pair _ _,_,_,_,h,_ | .cT,.arr _ _,_,_,_,h,_ | .cT,.nK _,_,_,_,h,_ | .cT,.gF _,_,_,_,h,_ | .cT,.js _,_,_,_,h,_ | .cT,.jp _,_,_,_,h,_=>by simp only[AS.jd,av]at h
 | .cg ..,.int _,_,_,_,h,_ | .cg ..,.bool,_,_,_,h,_ | .cg ..,.str,_,_,_,h,_ | .cg ..,.unit,_,_,_,h,_ | .cg ..,.pair _ _,_,_,_,h,_ | .cg ..,.arr _ _,_,_,_,h,_ | .cg ..,.nK _,_,_,_,h,_ | .cg ..,.gF _,_,_,_,h,_ | .cg ..,.eP _,_,_,_,h,_ | .cg ..,.js _,_,_,_,h,_ | .cg ..,.jp _,_,_,_,h,_=>by simp only[AS.jd,av]at h
 | .pr _ _,.int _,_,_,_,h,_ | .pr _ _,.bool,_,_,_,h,_ | .pr _ _,.str,_,_,_,h,_ | .pr _ _,.unit,_,_,_,h,_ | .pr _ _,.slice _,_,_,_,h,_ | .pr _ _,.arr _ _,_,_,_,h,_ | .pr _ _,.fx _,_,_,_,h,_ | .pr _ _,.nK _,_,_,_,h,_ | .pr _ _,.gF _,_,_,_,h,_ | .pr _ _,.eP _,_,_,_,h,_ | .pr _ _,.js _,_,_,_,h,_ | .pr _ _,.jp _,_,_,_,h,_=>by simp only[AS.jd,av]at h
 | .undef,t,_,_,_,h,_=>by cases t <;> simp only[AS.jd,av]at h
 | .gone,t,_,_,_,h,_=>by cases t <;> simp only[AS.jd,av]at h
 | .iQ,.nK t,x,cs,hv,h,_=>by simp only[AS.jd,aw]at h;subst h;simp only[V]at hv;simp only[cn];exact⟨λ_=>hv,λy hy=>by cases hy⟩
 | .iQ,.gF t,x,cs,hv,h,_=>by simp only[AS.jd,aw]at h;subst h;simp only[V]at hv;simp only[cn];exact⟨λ_=>hv,λy hy=>by cases hy⟩
 | .iQ,.int _,_,_,_,h,_ | .iQ,.bool,_,_,_,h,_ | .iQ,.str,_,_,_,h,_ | .iQ,.unit,_,_,_,h,_ | .iQ,.pair _ _,_,_,_,h,_ | .iQ,.arr _ _,_,_,_,h,_ | .iQ,.slice _,_,_,_,h,_ | .iQ,.fx _,_,_,_,h,_ | .iQ,.eP _,_,_,_,h,_ | .iQ,.js _,_,_,_,h,_ | .iQ,.jp _,_,_,_,h,_=>by simp only[AS.jd,av]at h
 | .xu,t,_,_,_,h,_=>by cases t <;> simp only[AS.jd,av]at h
 | .yl ..,t,_,_,_,h,_ | .Ay ..,t,_,_,_,h,_=>by cases t <;> simp only[AS.jd,av]at h
 | .Dh,t,_,_,_,h,_=>by cases t <;> simp only[AS.jd,av]at h
 | .sb _,t,_,_,_,h,_=>by cases t <;> simp only[AS.jd,av]at h
 | .ptr ..,t,_,_,_,h,_=>by cases t <;> simp only[AS.jd,av]at h
 | .dx ..,t,_,_,_,h,_=>by cases t <;> simp only[AS.jd,av]at h
 | .fn ..,t,_,_,_,h,_=>by cases t <;> simp only[AS.jd,av]at h
 | .cons ..,t,_,_,_,h,_=>by cases t <;> simp only[AS.jd,av]at h
 | .nil,t,_,_,_,h,_=>by cases t <;> simp only[AS.jd,av]at h
 | .vec ..,t,_,_,_,h,_=>by cases t <;> simp only[AS.jd,av]at h
 | .bx ..,t,_,_,_,h,_ | .cK ..,t,_,_,_,h,_ | .mp ..,t,_,_,_,h,_ | .rW ..,t,_,_,_,h,_=>by cases t <;> simp only[AS.jd,av]at h
theorem EY{s:AS}{t:Ty}{v:aA}{x:t.den}(h:(s.jd t v).eval=aj x):v.eg=aL:=by
 cases v <;> first
  |rfl
  | (cases t <;> simp[AS.jd,av]at h)
theorem ae9{s:AS}{t:Ty}{v:aA}{x:t.den}(h:(s.jd t v).eval=aj x):v.agg=t.agg:=by
 cases v with
 |d t' x'=>
  have h':(Out.opt (AM t' t x')).eval=aj x:=by grind [AS.jd]
  exact Va (gS.1 h')
 |_=>cases t <;> first | rfl | (simp[AS.jd,av]at h)
theorem DS{C:Ctx}{g:Nat->iU}{β:Id->Option Pl}{s:AS}{a:Act}{w:World}(h:Inv C g β s a w){v:aA}{y:Value}(hv:VS (s.env w g β) v y){t:Ty}{x:t.den}(ht:(s.jd t v).eval=aj x):
  ∃g',Inv C g' β (s.bj v.shared) a w/\cM (s.env w g β) ((s.bj v.shared).env w g' β)/\Trans w w g g'/\
   ∃cs,cn ((s.bj v.shared).env w g' β) t cs x/\fW t.agg cs y:=by
 obtain⟨g',h1,h2,h3,h4⟩:=fa v.shared h;obtain⟨cs,hV,hO⟩:=hv.eg (EY ht);exact⟨g',h1,h2,h3,cs,xh rfl h.bu h2 v t x cs hV ht h4,by grind [ae9]⟩
theorem abc{α:Type}{R:List Value->α->Prop}{f:α->List Value->Option (List Value)}(hf:∀x cs r,f x cs=aj r->∃c,cs=c++r/\R c x):
  ∀(l:List α) (cs r:List Value),aFQ f l cs=aj r->∃c,cs=c++r/\bo R c l
 |[],cs,r,h=>by simp only[aFQ,bf]at h;exact⟨[],by simp[h],rfl⟩
 |x::xs,cs,r,h=>by
  simp only[aFQ]at h;cases hx:f x cs with
  |none=>rw[hx]at h;cases h
  |some r1=>
   rw[hx]at h;obtain⟨c1,e1,h1⟩:=hf x cs r1 hx;obtain⟨c2,e2,h2⟩:=abc hf xs r1 r h;exact⟨c1++c2,by rw[e1,e2,aM],c1,c2,rfl,h1,h2⟩
theorem HE(E:Env):∀(t:Ty) (x:t.den) (cs r:List Value),s6 t x cs=aj r->∃c,cs=c++r/\cn E t c x
 | .int k,x,cs,r,h=>by
  cases cs with
  |nil=>simp[s6]at h
  |cons v r'=>
   cases v <;> simp only[s6]at h <;> try (cases h;done)
   rename_i k' n;split at h
   ·rename_i h1 h2;simp at h1 h2 h;subst h1 h2 h;exact⟨[.int k n],rfl,by simp[cn]⟩
   ·cases h
 | .bool,x,cs,r,h=>by
  cases cs with
  |nil=>simp[s6]at h
  |cons v r'=>
   cases v <;> simp only[s6]at h <;> try (cases h;done)
   rename_i b;split at h
   ·rename_i h1;simp at h1 h;subst h1 h;exact⟨[.bool b],rfl,by simp[cn]⟩
   ·cases h
 | .str,x,cs,r,h=>by
  cases cs with
  |nil=>simp[s6]at h
  |cons v r'=>
   cases v <;> simp only[s6]at h <;> try (cases h;done)
   rename_i b;split at h
   ·rename_i h1;simp at h1 h;subst h1 h;exact⟨[.string b],rfl,by simp[cn]⟩
   ·cases h
 | .slice t,x,cs,r,h=>by
  cases x with
  |cons _ _=>simp[s6]at h
  |nil=>
   cases cs with
   |nil=>simp[s6]at h
   |cons v r'=>
    unfold s6 at h;split at h <;> try (cases h;done)
    all_goals simp_all
    exact⟨[.slice aF 0 0],rfl,by simp only[cn];exact⟨aF,0,[],rfl,by simp,by simp,λi v hh=>by simp at hh,rfl⟩⟩
 | .fx t,x,cs,r,h=>by
  cases x with
  |some _=>simp[s6]at h
  |none=>
   cases cs with
   |nil=>simp[s6]at h
   |cons v r'=>
    unfold s6 at h;split at h <;> try (cases h;done)
    all_goals simp_all
    exact⟨[.slice aF 0 0],rfl,by simp[cn]⟩
 | .nK t,x,cs,r,h=>by
  cases x with
  |some _=>simp[s6]at h
  |none=>
   cases cs with
   |nil=>simp[s6]at h
   |cons v r'=>
    unfold s6 at h;split at h <;> try (cases h;done)
    all_goals simp_all
    exact⟨[.pointer aF],rfl,by simp[cn]⟩
 | .gF t,x,cs,r,h=>by
  cases x with
  |some _=>simp[s6]at h
  |none=>
   cases cs with
   |nil=>simp[s6]at h
   |cons v r'=>
    unfold s6 at h;split at h <;> try (cases h;done)
    all_goals simp_all
    exact⟨[.pointer aF],rfl,by simp[cn]⟩
 | .eP t,x,cs,r,h=>by
  obtain⟨b,l⟩:=x;cases b with
  |false=>simp[s6]at h
  |true=>cases l with
   |cons _ _=>simp[s6]at h
   |nil=>cases cs with
    |nil=>simp[s6]at h
    |cons v r'=>
     unfold s6 at h;split at h <;> try (cases h;done)
     all_goals simp_all
     exact⟨[.slice aF 0 0],rfl,cn.aHF⟩
 | .js _,x,cs,r,h=>by simp[s6]at h
 | .jp _,x,cs,r,h=>by simp[s6]at h
 | .unit,x,cs,r,h=>by simp only[s6,bf]at h;exact⟨[],by simp[h],by simp[cn]⟩
 | .pair a b,x,cs,r,h=>by
  simp only[s6]at h;cases hx:s6 a x.1 cs with
  |none=>rw[hx]at h;cases h
  |some r1=>
   rw[hx]at h;obtain⟨c1,e1,h1⟩:=HE E a x.1 cs r1 hx;obtain⟨c2,e2,h2⟩:=HE E b x.2 r1 r h;exact⟨c1++c2,by rw[e1,e2,aM],by simp only[cn];exact⟨c1,c2,rfl,h1,h2⟩⟩
 | .arr n t,x,cs,r,h=>by
  simp only[s6]at h;split at h
  ·rename_i h1;obtain⟨c,e,hc⟩:=abc (λx cs r hh=>HE E t x cs r hh) _ _ _ h;exact⟨c,e,by simp only[cn];exact⟨by simpa using h1,hc⟩⟩
  ·cases h
theorem atp(E:Env):∀(a:aA) (cs r:List Value),abb a cs=aj r->∃c,cs=c++r/\V E a c:=by
 intro a
 induction a with
 |d t x=>
  simp_all [abb,HE,V]
 |pr a b iha ihb=>
  grind [abb,V]
 |cT=>intro cs r h;unfold abb at h;split at h <;> simp_all <;> exact⟨[.slice aF 0 0],rfl,by simp[V]⟩
 |iQ=>intro cs r h;unfold abb at h;split at h <;> simp_all <;> exact⟨[.pointer aF],rfl,by simp[V]⟩
 |xu=>intro cs r h;unfold abb at h;split at h <;> simp_all <;> exact⟨[.nilFunc],rfl,by simp[V]⟩
 |Dh=>intro cs r h;unfold abb at h;split at h <;> simp_all <;> exact⟨[.map aF],rfl,by simp[V]⟩
 |_=>intro cs r h;simp[abb]at h
theorem ru{P:Program}{T:TypeId}{z:aA}(h:ahy P T z=aL)(E:Env):
  ∃i zv,P.info? T=aj i/\i.zero=aj zv/\V E z zv.cells.toList/\fW z.agg zv.cells.toList zv:=by
 unfold ahy at h;split at h <;> try (cases h;done)
 rename_i i hi;split at h <;> try (cases h;done)
 rename_i zv hz;simp only[ax,gE]at h;obtain⟨h1,h2⟩:=h;split at h1 <;> try (cases h1;done)
 rename_i he;obtain⟨c,e,hV⟩:=atp E z _ _ he;rw[bJ]at e;rw[<-e]at hV;refine⟨i,zv,hi,hz,hV,?_⟩;cases akI:z.agg with
 |true=>
  rw[akI]at h2;cases zv <;> simp[uS]at h2;simp[fW,Value.cells]
 |false=>
  rw[akI]at h2;cases zv <;> first | (simp[uS]at h2;done) | simp[fW,Value.cells]
end Go.Ab
namespace Go.Ab
def Fr(r:Option Nat):Fence:= {Fence.wide with round:=r}
def fp(P:Program)(o:Oper)(a:Act)(w:World)(K:Act->World->Prop):Prop:=(∃x w',(execOp a.eval o).run P w= .ok (.value x) w'/\K (a.put o.dst x) w')\/(∃w',(execOp a.eval o).run P w= .ok .skip w'/\K (a.put o.dst undef) w')\/(∃f args w',(execOp a.eval o).run P w= .ok (.enter f args) w'/\Calls P f args w' λe w''=>∃x,e= .returned x/\K (a.put o.dst x) w'')\/(∃l f tmps as b w',(execOp a.eval o).run P w= .ok (.round l f tmps as b) w'/\∀r n,RoundIn (Fr r) n P l f tmps as b w' λe w''=>∃x,e= .returned x/\K (a.put o.dst x) w'')
theorem fp.plain{P:Program}{o:Oper}{a:Act}{w:World}{K:Act->World->Prop}(h:fp P o a w K)(c:Call):o.op≠ .defer c:=λho=>by
 have hd:∀x w',(execOp a.eval o).run P w= .ok x w'->∃d,x= .defer d:=λx w' hx=>by
  simp[execOp]at hx;cases hr:(resolve a.eval c o.type).run P w with
  |ok d w1=>
   simp_all [fp,execOp]
  |halt _ _=>simp_all
 grind [fp]
theorem fp.wpIn{r:Option Nat}{n:Nat}{P:Program}{o:Oper}{a:Act}{w:World}{K:Act->World->Prop}{Q:Exit->Act->World->Prop}(h:fp P o a w K):o.wpIn (Fr r) n P a w K Q:=by
 have hp:=h.plain;refine⟨λ_ _=>trivial,?_⟩;rw[Oper.semAt_eq _ _ _ hp];rcases h with⟨x,w',hr,hk⟩ | ⟨w',hr,hk⟩ | ⟨f,args,w',hr,hk⟩ | ⟨l,f,tmps,as,b,w',hr,hk⟩;rotate_left 3
 ·rw[hr];refine⟨λh=>(by cases h),(hk r (n - 1)).mono λe w'' ⟨x,he,hx⟩=> ?_⟩;grind
 ·grind [Oper.uponIn_value]
 ·grind [Oper.uponIn_skip]
 ·rw[hr];refine⟨λh=>(by cases h),?_⟩;have h1:CallsIn (Fr r) (n - 1) P f args w' _:=callsIn_wide.2 hk;grind [CallsIn]
theorem fp.mono{P:Program}{o:Oper}{a:Act}{w:World}{K K':Act->World->Prop}(h:fp P o a w K)(hk:∀a w,K a w->K' a w):fp P o a w K':=by
 rcases h with⟨x,w',hr,h⟩ | ⟨w',hr,h⟩ | ⟨f,args,w',hr,h⟩ | ⟨l,f,tmps,as,b,w',hr,h⟩
 ·grind [fp]
 ·grind [fp]
 ·exact .inr (.inr (.inl ⟨f,args,w',hr,h.mono λe w'' ⟨x,he,hx⟩=>⟨x,he,hk _ _ hx⟩⟩))
 ·exact .inr (.inr (.inr ⟨l,f,tmps,as,b,w',hr,λr n=>(h r n).mono λe w'' ⟨x,he,hx⟩=>⟨x,he,hk _ _ hx⟩⟩))
section
variable {P:Program} {C:Ctx} {g:Nat->iU} {β:Id->Option Pl} {s:AS} {a:Act} {w:World} {o:Oper}
theorem Inv.value(h:Inv C g β s a w){v:aA}{x:Value}(hv:VS (s.env w g β) v x)(hr:(execOp a.eval o).run P w= .ok (.value x) w):fp P o a w (gh C (s.put o.dst v)):= .inl ⟨x,w,hr,g,β,h.put o.dst hv⟩
theorem eH{f:Sem Value}{x:Value}{w':World}(he:execOp a.eval o=(do pure (.value (<-f))))(hf:f.run P w= .ok x w'):(execOp a.eval o).run P w= .ok (.value x) w':=by simp_all
theorem MT{f:Sem Unit}{w':World}(he:execOp a.eval o=(do f;pure .skip))(hf:f.run P w= .ok () w'):(execOp a.eval o).run P w= .ok .skip w':=by simp_all
theorem wo{E:Env}{k:kY}{n:Int}{y:Value}(h:VS E (.d (.int k) n) y):y= .int k n:=by obtain⟨cs,hv,ho⟩:=h;simp only[V,cn]at hv;have ho':cs=[y]:=ho;rw[hv]at ho';simpa using ho'.symm
theorem Rz{E:Env}{b:Bool}{y:Value}(h:VS E (.d .bool b) y):y= .bool b:=by obtain⟨cs,hv,ho⟩:=h;simp[V,cn]at hv;have ho':cs=[y]:=ho;grind
theorem L0{E:Env}{b:ByteArray}{y:Value}(h:VS E (.d .str b) y):y= .string b:=by obtain⟨cs,hv,ho⟩:=h;simp[V,cn]at hv;have ho':cs=[y]:=ho;grind
theorem kH{E:Env}(k:kY)(n:Int):VS E (.d (.int k) n) (.int k n):=⟨[.int k n],by simp[V,cn],rfl⟩
theorem yx{E:Env}(b:Bool):VS E (.d .bool b) (.bool b):=⟨[.bool b],by simp[V,cn],rfl⟩
theorem ajM{E:Env}(b:ByteArray):VS E (.d .str b) (.string b):=⟨[.string b],by simp[V,cn],rfl⟩
theorem ax0{T:TypeId}{d:TypeDesc}(h:P.underlying T=aj d):∃i,P.info? T=aj i:=by grind [Program.underlying]
theorem run_sizeOf{T:TypeId}{i:TypeInfo}(h:P.info? T=aj i)(w:World):(sizeOf T).run P w= .ok i.size w:=by simp[sizeOf,typeInfo,h]
theorem oB{T:TypeId}{i:TypeInfo}(h:P.info? T=aj i):P.cellsOf T=i.size:=by grind [Program.cellsOf]
theorem qI{T:TypeId}{v:aA}(h:fits P T v=aL):v.eg=aL/\∃i,P.info? T=aj i/\i.size=v.size/\∀w,(isAgg T).run P w= .ok v.agg w:=by
 unfold fits at h;simp at h;obtain⟨⟨h1,h2⟩,h3⟩:=h;cases hu:P.underlying T with
 |none=>grind
 |some d=>
  obtain⟨i,hi⟩:=ax0 hu;refine⟨h1,i,hi,by grind [oB],λw=> ?_⟩;rw[hu]at h3;unfold isAgg;rw[dM,run_underlying hu w];cases d <;> simp at h3 <;> simp[h3]
theorem xc{T:TypeId}{v:aA}(hf:fits P T v=aL){b off:Nat}{cs:List Value}(hl:cs.length=v.size)(hc:∀j x,cs[j]? =aj x->w.cell? ⟨b,off+j,aF⟩=aj x):
  ∃y,(loadVar T ⟨b,off,aF⟩).run P w= .ok y w/\fW v.agg cs y:=by
 obtain⟨_,i,hi,hs,akI⟩:=qI hf;unfold loadVar;rw[dM,akI w];have tp:∀j x,cs[j]? =aj x->w.cell? ((⟨b,off,aF⟩:Addr).add j)=aj x:=λj x hj=>by grind [eI]
 cases ha:v.agg with
 |true=>
  refine⟨.agg cs.toArray,?_,rfl⟩;simp only[bE,dM,run_sizeOf hi,cU,hs,<-hl,run_loadCells_list w _ cs tp];rfl
 |false=>
  have h1:=aA.arX ha;obtain⟨y,rfl⟩:∃y,cs=[y]:=by
   match cs,hl with
   |[y],_=>grind
   |[],hh=>grind
   |_::_::_,hh=>grind
  refine⟨y,?_,rfl⟩;have:=hc 0 y rfl;simp_all
theorem uq{T:TypeId}{v:aA}{E:Env}(hf:fits P T v=aL){cs:List Value}{y:Value}(hV:V E v cs)(ho:fW v.agg cs y){b off:Nat}{cur:Array Value}{e:TypeId}
  (hh:w.heap[b]? =aj (.cells cur e (0,0))) (hle:off+cs.length<=cur.size):
  (storeVar T ⟨b,off,aF⟩ y).run P w= .ok () (w.setRow b (dB cur.toList off cs).toArray):=by
 obtain⟨_,i,hi,hs,_⟩:=qI hf;have aL5:=ho.cells hV.one;have hl:=hV.size;have vR:=run_storeCells_at P b off e cs 0 cur w hh (by grind) hV.one;simp_all [storeVar,run_sizeOf,dB]
theorem tl(w:World)(ob:Obj){b:Nat}(h:b < w.heap.size):(w.alloc ob).heap[b]? =w.heap[b]? :=by
 show(w.heap.push ob)[b]? =w.heap[b]?
 grind
theorem vZ(w:World)(ob:Obj):(w.alloc ob).heap[w.heap.size]? =aj ob:=by
 show(w.heap.push ob)[w.heap.size]? =aj ob
 simp
theorem Trans.alloc(w:World)(g:Nat->iU)(ob:Obj)(l:iU):Trans w (w.alloc ob) g (mQ g w.heap.size l):=by
 refine⟨rfl,rfl,⟨rfl,aB _⟩,by simp,λb hb=> ?_⟩;rw[gZ _ _ _ au,tl w ob hb];cases g b with
 |free=>exact⟨rfl,rfl⟩
 |own o k=>cases o with
  |dX=>exact⟨rfl,rfl⟩
  |id i=>exact⟨.inr (.inr ⟨i,k,rfl,aB _⟩),λoff v _ hv=>by rw[World.cell?_alloc_lt w ob _ hb];exact hv⟩
 |fresh=>exact .inl ⟨rfl,rfl⟩
 |gD=>exact⟨rfl,λcur e h=>⟨cur,h,rfl⟩⟩
theorem Trans.drew(w:World)(g:Nat->iU):Trans w w.drew g g:=Trans.refl w g |> λh=>⟨h.os,h.tape,⟨h.output.1,Nat.le_succ _⟩,h.size,h.afP⟩
theorem iL.same{w':World}{g':Nat->iU}(h:iL (s.env w g β))(he:cM (s.env w g β) (s.env w' g' β))(hb:∀i ver fr c pl,s.bT i=aj (.obj ver fr c)->β i=aj pl->w'.heap[pl.b]? =w.heap[pl.b]? /\g' pl.b=g pl.b):iL (s.env w' g' β):=λi ver fr c hi=>(h i ver fr c hi).mono he rfl (λpl hp=>hb i ver fr c pl hi hp) λq vq k v l hq _=>⟨⟨k,v,l,hq⟩,λpl hp=>hb q vq aL _ pl hq hp⟩
theorem cM.same{w':World}{g':Nat->iU}(ht:Trans w w' g g'):cM (s.env w g β) (s.env w' g' β):=⟨Trans.mem ht,λ_ _ h=>h,λ_ _ _ h=>⟨h,rfl⟩⟩
theorem Inv.MK(h:Inv C g β s a w)(ob:Obj):Inv C (mQ g w.heap.size .free) β s a (w.alloc ob):=by have ht:=Trans.alloc w g ob .free;have he:cM (s.env w g β) (s.env (w.alloc ob) (mQ g w.heap.size .free) β):=cM.same ht;refine h.step rfl ht he (iL.same h.bu he λi ver fr c pl hi hp=> ?_);have hl:=((h.bu i ver fr c hi).label (pl:=pl) hp).1;have hl':pl.b < w.heap.size:=hl;grind [tl,mQ]
theorem Inv.drew(h:Inv C g β s a w):Inv C g β s a w.drew:=by have ht:=Trans.drew w g;have he:cM (s.env w g β) (s.env w.drew g β):=cM.same ht;exact h.step rfl ht he (iL.same h.bu he λ_ _ _ _ _ _ _=>⟨rfl,rfl⟩)
theorem o9{q:Nat}(h:s.dY q=aL):(∀j,s.bT (.new q j)=aF)/\q < s.news.length:=by grind [AS.dY,AS.bT]
theorem Bj{q:Nat}(hq:q < s.news.length)(es:List dT)(j:Nat):(s.born q es).bT (.new q j)=es[j]? :=by simp[AS.bT,AS.born,bS,hq]
theorem jl{q:Nat}(es:List dT){id:Id}(h:∀j,id≠ .new q j):(s.born q es).bT id=s.bT id:=by
 cases id with
 |bW k=>rfl
 |new i j=>
  grind [AS.bT,AS.born]
def MG(β:Id->Option Pl)(id:Id)(p:Option Pl):Id->Option Pl:=λi=>if i=id then p else β i
@[simp] theorem nH(β:Id->Option Pl)(id:Id)(p:Option Pl):MG β id p id=p:=by simp[MG]
theorem IW(β:Id->Option Pl)(id:Id)(p:Option Pl){i:Id}(h:i≠id):MG β id p i=β i:=by grind [MG]
theorem Inv.U4(h:Inv C g β s a w){q:Nat}(hq:s.dY q=aL){w':World}{g':Nat->iU}{c:aA}{p:Option Pl}(ht:Trans w w' g g')
  (hb:∀b,b < w.heap.size->w'.heap[b]? =w.heap[b]? /\g' b=g b)
  (ho:cM (s.env w g β) ((s.born q [.obj 0 aS c]).env w' g' (MG β (.new q 0) p))->xo ((s.born q [.obj 0 aS c]).env w' g' (MG β (.new q 0) p)) (.new q 0) aS c):
  Inv C g' (MG β (.new q 0) p) (s.born q [.obj 0 aS c]) a w'/\cM (s.env w g β) ((s.born q [.obj 0 aS c]).env w' g' (MG β (.new q 0) p)):=by
 obtain⟨hv,hl⟩:=o9 hq;have kJ:∀id,s.bT id≠aF->∀j,id≠ .new q j:=λid dy j e=>dy (by grind)
 have he:cM (s.env w g β) ((s.born q [.obj 0 aS c]).env w' g' (MG β (.new q 0) p)):=by
  refine⟨Trans.mem ht,λid ver atG=> ?_,λid ver atG hc=> ?_⟩
  ·have dy:=kJ id atG.1;have e:=jl (s:=s) [.obj 0 aS c] dy;exact⟨by show(s.born q _).bT id≠aF;rw[e];exact atG.1,λv fr c' hh=>atG.2 v fr c' (e.symm.trans hh)⟩
  ·have dy:=kJ id atG.1;have e:=jl (s:=s) [.obj 0 aS c] dy;obtain⟨fr,c',hc⟩:=hc;exact⟨⟨fr,c',e.symm.trans hc⟩,IW _ _ _ (dy 0)⟩
 refine⟨h.step rfl ht he λid ver fr c' dy=> ?_,he⟩;have hid':(s.born q [.obj 0 aS c]).bT id=aj (.obj ver fr c'):=dy;by_cases hi:∃j,id= .new q j
 ·grind [Bj]
 ·have hi':=λj e=>hi ⟨j,e⟩
  rw[jl _ hi']at hid';refine(h.bu id ver fr c' hid').mono he (IW _ _ _ (hi' 0)) (λpl hp=> ?_) λq2 vq k v l Vp _=> ?_
  ·exact hb pl.b ((h.bu id ver fr c' hid').label (pl:=pl) hp).1
  ·have aX2:s.bT q2=aj (.obj vq aL (.mp k v l)):=Vp;refine⟨⟨k,v,l,by show(s.born q _).bT q2=_;grind [jl]⟩,λpl hp=>hb pl.b ((h.bu q2 vq aL _ aX2).label (pl:=pl) hp).1⟩
theorem rS{q:Nat}(hq:s.dY q=aL)(c:aA)(w':World)(g':Nat->iU)(β':Id->Option Pl):((s.born q [.obj 0 aS c]).env w' g' β').Ct (.new q 0) 0:=by have e:=Bj (s:=s) (o9 hq).2 [.obj 0 aS c] 0;refine⟨by show(s.born q [.obj 0 aS c]).bT (.new q 0)≠aF;grind,λv fr c' _=>aK _⟩
theorem Inv.aye(h:Inv C g β s a w){q:Nat}(hq:s.dY q=aL){v:aA}{cs:List Value}{e:TypeId}(hk:∀pl n,v.JU pl n e)(hN:∀n,v.v7 n=n)(hv:V (s.env w g β) v.strip cs):
  ∃g' β',Inv C g' β' (s.born q [.obj 0 aS v]) a (w.alloc (.cells cs.toArray e))/\
   VS ((s.born q [.obj 0 aS v]).env (w.alloc (.cells cs.toArray e)) g' β') (.ptr (.new q 0) 0 [] 0) (.pointer (aj ⟨w.heap.size,0,aF⟩)):=by
 have ht:=Trans.alloc w g (.cells cs.toArray e) (.own (.id (.new q 0)) 0);obtain⟨h1,h2⟩:=h.U4 hq (c:=v) (p:=aj ⟨w.heap.size,0⟩) ht (λb hb=>⟨tl w _ hb,gZ _ _ _ au⟩) (λhe=>
  Nw.obj ⟨⟨w.heap.size,0⟩,cs.toArray,e,nH _ _ _,vZ w _,fV _ _ _,hk _ _,by rw[hN,show cs.toArray.toList.take cs.toArray.size=cs by simp];exact hv.mono he⟩)
 refine⟨_,_,h1,?_⟩;refine⟨[.pointer (aj ⟨w.heap.size,0,aF⟩)],?_,rfl⟩;exact⟨_,rfl,rS hq _ _ _ _,λ_=>⟨_,nH _ _ _,rfl⟩⟩
theorem Inv.aQN(h:Inv C g β s a w){q:Nat}(hq:s.dY q=aL){v:aA}{cs:List Value}(hv:V (s.env w g β) v cs)(e:TypeId):
  ∃g' β',Inv C g' β' (s.born q [.obj 0 aS v]) a (w.alloc (.cells cs.toArray e))/\
   VS ((s.born q [.obj 0 aS v]).env (w.alloc (.cells cs.toArray e)) g' β') (.ptr (.new q 0) 0 [] 0) (.pointer (aj ⟨w.heap.size,0,aF⟩)):=
 h.aye hq (λpl n=>U5 hv.xI pl n e) (λn=>aaJ hv.xI n) (by rw[WD hv.xI];exact hv)
theorem aEV(P:Program)(T:TypeId){z:aA}{E:Env}{cs:List Value}(hv:V E z cs):(∀pl n,(boxed P T z).JU pl n T)/\(∀n,(boxed P T z).v7 n=n)/\V E (boxed P T z).strip cs:=by
 unfold boxed;split
 ·exact⟨λ_ _=>rfl,λ_=>rfl,hv⟩
 ·exact⟨λpl n=>U5 hv.xI pl n T,λn=>aaJ hv.xI n,by rw[WD hv.xI];exact hv⟩
theorem Inv.aMQ(h:Inv C g β s a w){t:Ty}{x:t.den}{cs:List Value}(hv:cn (s.env w g β) t cs x)(e:TypeId):
  ∃g',Inv C g' β s a (w.alloc (.cells cs.toArray e))/\cM (s.env w g β) (s.env (w.alloc (.cells cs.toArray e)) g' β)/\
   VS (s.env (w.alloc (.cells cs.toArray e)) g' β) (.dx t x) (.pointer (aj ⟨w.heap.size,0,aF⟩)):=by
 have ht:=Trans.alloc w g (.cells cs.toArray e) .free;have he:cM (s.env w g β) (s.env (w.alloc (.cells cs.toArray e)) (mQ g w.heap.size .free) β):=cM.same ht;refine⟨_,h.MK _,he,[.pointer (aj ⟨w.heap.size,0,aF⟩)],?_,rfl⟩;refine⟨w.heap.size,0,cs,rfl,λi v hi=>⟨_,_,rfl,?_,?_⟩,hv.mono he.mem⟩
 ·show(w.alloc (.cells cs.toArray e)).cell? ⟨w.heap.size,0+i,aF⟩=aj v;simp_all
 ·show ku (mQ g w.heap.size .free) w.heap.size (0+i);simp[ku]
theorem aez(T:TypeId)(y:Value)(w:World):(newVar T y).run P w= .ok ⟨w.heap.size,0,aF⟩ (w.alloc (.cells y.cells T)):=by simp[newVar,newRow]
theorem asT(h:Inv C g β s a w){T:TypeId}(ho:o.op= .alloc T){z:aA}{q:Nat}(hq:s.dY q=aL)(hz:ahy P T z=aL):
  fp P o a w (gh C ((s.born q [.obj 0 aS (boxed P T z)]).put o.dst (.ptr (.new q 0) 0 [] 0))):=by
 obtain⟨i,zv,hi,atV,hV,hO⟩:=ru hz (s.env w g β);obtain⟨hk,hN,hV⟩:=aEV P T hV;obtain⟨g',β',h1,h2⟩:=h.aye hq hk hN hV;refine .inl ⟨.pointer (aj ⟨w.heap.size,0,aF⟩),w.alloc (.cells zv.cells T),?_,g',β',?_⟩
 ·simp_all [Instr.alloc,execOp,zeroValue,typeInfo,aez]
 ·have:=h1.put o.dst h2;omega
theorem VS.aTi{E:Env}{t:Ty}{x:t.den}{y:Value}(h:VS E (.dx t x) y)(dt:Bool):VS E (aPD dt t x) y:=by
 cases dt with
 |false=>exact h
 |true=>
  obtain⟨cs,hv,ho⟩:=h;refine⟨cs,?_,ho⟩;grind [aPD,V,cn]
theorem aie{E:Env}{t:Ty}{y:Value}(h:VS E (.d (.nK t) aF) y):y= .pointer aF:=by obtain⟨cs,hv,ho⟩:=h;simp[V,cn]at hv;have ho':cs=[y]:=ho;grind
theorem Sk{E:Env}{t:Ty}{x:t.den}{y:Value}(h:VS E (.d (.nK t) (aj x)) y):VS E (.dx t x) y:=by obtain⟨cs,hv,ho⟩:=h;simp only[V,cn]at hv;refine⟨cs,?_,ho⟩;simp only[V];simpa using hv
theorem air{E:Env}{t:Ty}{y:Value}(h:VS E (.d (.gF t) aF) y):y= .pointer aF:=by obtain⟨cs,hv,ho⟩:=h;simp[V,cn]at hv;have ho':cs=[y]:=ho;grind
theorem ax1{E:Env}{t:Ty}{x:Nat×t.den}{y:Value}(h:VS E (.d (.gF t) (aj x)) y):y= .pointer (aj ⟨x.1,0,aF⟩)/\(∃ca T,E.g x.1= .free/\E.w.heap[x.1]? =aj (.cells ca T (0,0)))/\VS E (.dx t x.2) y:=by obtain⟨cs,hv,ho⟩:=h;have ho':cs=[y]:=ho;obtain⟨ca,T,vs,e,h0,hr,hR⟩:=hv.2 x rfl;refine⟨by grind,⟨ca,T,h0⟩,cs,?_,ho⟩;grind [V]
theorem SB{E:Env}{t:Ty}{x:Nat×t.den}{y:Value}(h:VS E (.d (.gF t) (aj x)) y):VS E (.dx t x.2) y:=(ax1 h).2.2
theorem aEU(h:Inv C g β s a w){T:TypeId}{x:bB}{obj dt:Bool}(ho:o.op= .box T x){s':AS}(he:(as3 P s obj dt o.dst T (s.ev x)).eval=aj s'):fp P o a w (gh C s'):=by
 unfold as3 at he;cases hd:o.dst with
 |none=>grind [av]
 |some q=>
  rw[hd]at he;have aii:=h.ev x;have pV:∀cs:List Value,(a.eval x).cells=cs.toArray->(execOp a.eval o).run P w= .ok (.value (.pointer (aj ⟨w.heap.size,0,aF⟩))) (w.alloc (.cells cs.toArray T)):=by simp_all [Instr.box,execOp,aez]
  cases obj with
  |true=>
   obtain⟨hg,gb⟩:=aD.1 he;obtain rfl:=aw.1 gb;simp at hg;obtain⟨hq,hf⟩:=hg;obtain⟨hc,_⟩:=qI hf;obtain⟨cs,hV,hO⟩:=aii.eg hc;obtain⟨g',β',h1,h2⟩:=h.aQN hq hV T;refine .inl ⟨_,_,pV cs (hO.cells hV.one),g',β',?_⟩;rw[hd];exact h1.put (aj q) h2
  |false=>
   cases ht:asu P depth T with
   |none=>grind [av]
   |some t=>
    rw[ht]at he;obtain⟨_,he⟩:=aD.1 he;obtain⟨y,h1,h2⟩:=ay.1 he;obtain rfl:=aw.1 h2;obtain⟨g1,i1,e1,t1,cs,hR,hO⟩:=DS h aii h1;obtain⟨g2,i2,e2,hv⟩:=i1.aMQ hR T;refine .inl ⟨_,_,pV cs (hO.cells hR.one),g2,β,?_⟩;rw[hd];exact i2.put (aj q) (hv.aTi dt)
theorem mW{E:Env}{t:Ty}{x:t.den}{y:Value}(h:VS E (.dx t x) y):∃b off vs,y= .pointer (aj ⟨b,off,aF⟩)/\xw E (aj ⟨b,off,aF⟩) vs/\cn E t vs x:=by obtain⟨cs,hv,ho⟩:=h;simp[V]at hv;have ho':cs=[y]:=ho;grind
theorem wJ{E:Env}{id:Id}{ver n:Nat}{p:List Hk}{y:Value}(h:VS E (.ptr id ver p n) y):
  ∃a,y= .pointer (aj a)/\E.Ct id ver/\(E.cur id ver->∃pl,E.β id=aj pl/\a=⟨pl.b,n,aF⟩):=by
 obtain⟨cs,hv,ho⟩:=h;simp[V]at hv;have ho':cs=[y]:=ho;grind
theorem uu{E:Env}{id:Id}{ver c i len:Nat}{p:List Hk}{y:Value}(h:VS E (.cg id ver p c i len) y):
  ∃a cap,y= .slice a len cap/\len<=cap/\(0 < len->a.isSome=aL)/\E.Ct id ver/\
   (E.cur id ver->match E.β id with
    |some pl=>(0 < len\/i=0->a=aj ⟨pl.b,c,aF⟩)/\(p=[]->i=0->cap=pl.cap)
    |none=>a=aF/\len=0/\cap=0):=by
 obtain⟨cs,hv,ho⟩:=h;simp only[V]at hv;obtain⟨a,cap,e,rest⟩:=hv;have ho':cs=[y]:=ho;rw[e]at ho';exact⟨a,cap,by simpa using ho'.symm,rest⟩
theorem xd{E:Env}{t:Ty}{l:List t.den}{y:Value}(h:VS E (.d (.slice t) l) y):
  ∃a cap vs,y= .slice a l.length cap/\l.length<=cap/\(0 < l.length->a.isSome=aL)/\xw E a vs/\bo (cn E t) vs l:=by
 obtain⟨cs,hv,ho⟩:=h;simp[V,cn]at hv;have ho':cs=[y]:=ho;grind
theorem lZ{E:Env}{y:Value}(h:VS E .cT y):y= .slice aF 0 0:=by obtain⟨cs,hv,ho⟩:=h;simp[V]at hv;have ho':cs=[y]:=ho;grind
theorem aBg{E:Env}{id:Id}{fr:Bool}{c:aA}(h:xo E id fr c){p:List Hk}{n:Nat}{v:aA}(hl:(loc c.strip p).eval=aj (n,v))(hf:v.eg=aL):
  ∃pl cur e,E.β id=aj pl/\E.w.heap[pl.b]? =aj (.cells cur e (0,0))/\V E v ((cur.toList.drop n).take v.size)/\n+v.size<=cur.size:=by
 by_cases hn:c.iD=aS
 ·obtain⟨pl,cur,e,hp,hh,hg,hk,hV⟩:=h.box hn;have hN:=ajT hk;generalize c.v7 cur.size=N at hN hV;obtain⟨u,hu⟩:∃u,c.strip=u:=⟨_,rfl⟩;rw[hu]at hV hl;rcases r9 p u (cur.toList.take N) n v (VO.of hV) hl with⟨rfl,rfl⟩ | ⟨h1,h2⟩
  ·have hs:=hV.size;grind
  grind [vW]
 ·cases c <;> first | (exact absurd rfl hn) | skip
  rotate_left
  ·have hl:(loc (.mp _ _ _) p).eval=_:=hl;grind [ak2,aA.eg]
  ·have hl:(loc (.rW _ _ _ _ _ _) p).eval=_:=hl;grind [Z8,aA.eg]
  ·have hl:(loc (.Ay _ _ _) p).eval=_:=hl;grind [Z9,aA.eg]
  rename_i e t l;obtain⟨hz,h⟩:=h;cases hp:E.β id with
  |none=>
   rw[hp]at h;have:=h;subst this;obtain⟨_,rfl⟩:=ab0 hl;grind [aA.eg]
  |some pl=>
   rw[hp]at h;obtain⟨cur,k,q1,q2,q3,q4,q5,q6,q7,q8⟩:=h;rcases r9 (E:=E) p (.vec e t l) _ n v q8 hl with⟨rfl,rfl⟩ | ⟨h1,h2⟩
   all_goals grind [aA.eg,vW]
theorem aBe{E:Env}{v v':aA}(h:(aQQ v).eval=aj v'):(∀cs,V E v cs->V E v' cs)/\v'.agg=v.agg:=by
 unfold aQQ at h;split at h
 ·rename_i t l;obtain⟨h1,h2⟩:=bP.1 h;obtain rfl:=aw.1 h2;refine⟨λcs hv=> ?_,rfl⟩;simp only[V,cn]at hv ⊢;exact hv.1 (Option.isNone_iff_eq_none.1 h1)
 ·rename_i t x;obtain⟨h1,h2⟩:=bP.1 h;obtain rfl:=aw.1 h2;refine⟨λcs hv=> ?_,rfl⟩;simp only[V,cn]at hv ⊢;obtain⟨a,cap,vs,e,hl,hs,hc,h3,_⟩:=hv;exact⟨a,cap,vs,e,hl,hs,h3 (by simpa using h1),hc⟩
 ·obtain rfl:=aw.1 h;exact⟨λ_ h=>h,rfl⟩
theorem abZ(h:Inv C g β s a w){T:TypeId}{x:aA}{y:Value}(hx:VS (s.env w g β) x y){v:aA}(he:(SJ P s T x).eval=aj v):
  ∃ad z,y= .pointer (aj ad)/\(loadVar T ad).run P w= .ok z w/\VS (s.env w g β) v z:=by
 unfold SJ at he;split at he
 ·rename_i id ver p n;cases mw:s.obj id with
  |none=>grind [av]
  |some r=>
   obtain⟨v0,fr,c⟩:=r;rw[mw]at he;obtain⟨h1,h2⟩:=aD.1 he;obtain⟨⟨n',v'⟩,h3,h4⟩:=ay.1 h2;obtain⟨h5,h6⟩:=aD.1 h4;obtain⟨h7,h8⟩:=bP.1 h6;obtain⟨n1,n2⟩:=aBe (E:=s.env w g β) h8;simp at h7;have aRQ:v0=ver:=by grind
   subst aRQ h7;have di:=dI mw;obtain⟨ad,rfl,hb,hc⟩:=wJ hx;obtain⟨pl,hp,rfl⟩:=hc ⟨fr,c,di⟩;obtain⟨akK,_⟩:=qI h5;obtain⟨pl',cur,e,hp',hh,hV,hle⟩:=aBg (h.bu id v0 fr c di) h3 akK;obtain rfl:pl=pl':=by grind
   obtain⟨z,Z0,Z1⟩:=xc (P:=P) (w:=w) h5 (b:=pl.b) (off:=n') hV.size (λj x hj=>by
    rw[cell_of_row w pl.b (n'+j) cur e (0,0) hh];grind)
   grind [VS.of]
 ·obtain⟨h1,h2⟩:=aD.1 he;obtain rfl:=aw.1 h2;obtain⟨b,off,vs,rfl,hr,hR⟩:=mW hx;obtain⟨z,Z0,Z1⟩:=xc (P:=P) (w:=w) h1 (b:=b) (off:=off) hR.size (λj x hj=>by
   obtain⟨b',off',e,hh⟩:=hr j x hj;obtain⟨rfl,rfl⟩:=e;exact hh.1)
  grind [V,VS]
 ·obtain⟨u,e,he⟩:=jm.1 he;subst e;have hx:=Sk hx;obtain⟨h1,h2⟩:=aD.1 he;obtain rfl:=aw.1 h2;obtain⟨b,off,vs,rfl,hr,hR⟩:=mW hx;obtain⟨z,Z0,Z1⟩:=xc (P:=P) (w:=w) h1 (b:=b) (off:=off) hR.size (λj x hj=>by
   obtain⟨b',off',e,hh⟩:=hr j x hj;obtain⟨rfl,rfl⟩:=e;exact hh.1)
  grind [V,VS]
 ·obtain⟨u,e,he⟩:=jm.1 he;subst e;have hx:=SB hx;obtain⟨h1,h2⟩:=aD.1 he;obtain rfl:=aw.1 h2;obtain⟨b,off,vs,rfl,hr,hR⟩:=mW hx;obtain⟨z,Z0,Z1⟩:=xc (P:=P) (w:=w) h1 (b:=b) (off:=off) hR.size (λj x hj=>by
   obtain⟨b',off',e,hh⟩:=hr j x hj;obtain⟨rfl,rfl⟩:=e;exact hh.1)
  grind [V,VS]
 grind [av]
theorem aAQ(h:Inv C g β s a w){T:TypeId}{x:bB}(ho:o.op= .load T x){v:aA}(he:(SJ P s T (s.ev x)).eval=aj v):fp P o a w (gh C (s.put o.dst v)):=by obtain⟨ad,z,hy,hr,hv⟩:=abZ h (h.ev x) he;refine h.value hv (eH (f:=Instr.loadAt T (a.eval x)) (by grind [execOp]) ?_);grind [Instr.loadAt,Instr.sureAddr]
theorem Trans.setRow(w:World){b:Nat}{i:Id}(hg:g b= .own (.id i) 0)(cur:Array Value):Trans w (w.setRow b cur) g g:=by
 refine⟨by simp,by simp,by simp,by simp,λb' hb=> ?_⟩;by_cases he:b'=b
 ·subst he;rw[hg];exact⟨.inr (.inr ⟨i,0,rfl,aB _⟩),λ_ _ hh=>au⟩
 ·rw[setRow_other w b b' cur he];cases NA:g b' with
  |free=>exact⟨rfl,rfl⟩
  |own o' k=>cases o' with
   |dX=>exact⟨rfl,rfl⟩
   |id i'=>exact⟨.inr (.inr ⟨i',k,rfl,aB _⟩),λoff v _ hv=>by rw[cell_setRow_other w b cur _ he];exact hv⟩
  |fresh=>exact .inl ⟨rfl,rfl⟩
  |gD=>exact⟨rfl,λcur e h=>⟨cur,h,rfl⟩⟩
theorem Trans.aNM(w:World){b:Nat}(hg:g b= .gD){cur:Array Value}{e:TypeId}(hh:w.heap[b]? =aj (.cells cur e (0,0))){new:Array Value}(hs:new.size=cur.size):Trans w (w.setRow b new) g g:=by
 refine⟨by simp,by simp,by simp,by simp,λb' hb=> ?_⟩;by_cases he:b'=b
 ·subst he;rw[hg];refine⟨rfl,λc1 e1 h1=> ?_⟩;rw[hh]at h1;cases h1;exact⟨new,setRow_heap w b' cur new e (0,0) hh,hs⟩
 ·rw[setRow_other w b b' new he];cases NA:g b' with
  |free=>exact⟨rfl,rfl⟩
  |own o' k=>cases o' with
   |dX=>exact⟨rfl,rfl⟩
   |id i'=>exact⟨.inr (.inr ⟨i',k,rfl,aB _⟩),λoff v _ hv=>by rw[cell_setRow_other w b new _ he];exact hv⟩
  |fresh=>exact .inl ⟨rfl,rfl⟩
  |gD=>exact⟨rfl,λcur e h=>⟨cur,h,rfl⟩⟩
theorem aGR{E:Env}{n:Nat}{u:(Ty.jp n).den}{y:Value}(h:VS E (.d (.jp n) u) y):∃b off,y= .pointer (aj ⟨b,off,aF⟩)/\asM E b (off+n):=by obtain⟨cs,hv,ho⟩:=h;simp only[V,cn]at hv;obtain⟨b,off,e,hj⟩:=hv;have ho':cs=[y]:=ho;rw[e]at ho';exact⟨b,off,by simpa using ho'.symm,hj⟩
theorem Inv.apart(h:Inv C g β s a w){id:Id}{k:Nat}{b:Nat}(hg:g b= .own (.id id) k){i:Id}{ver:Nat}{fr:Bool}{c:aA}{pl:Pl}(hi:i≠id)(hs:s.bT i=aj (.obj ver fr c))(hp:β i=aj pl):pl.b≠b:=by have hl:(∃k,g pl.b= .own (.id i) k)\/(fr=aL/\g pl.b= .free):=((h.bu i ver fr c hs).label (pl:=pl) hp).2;grind
theorem ar5(h:Inv C g β s a w){T:TypeId}{x v:aA}{y z:Value}(hx:VS (s.env w g β) x y)(hz:VS (s.env w g β) v z){s':AS}(he:(LZ P s T x v).eval=aj s'):
  ∃ad w',y= .pointer (aj ad)/\(storeVar T ad z).run P w= .ok () w'/\∃g' β',Inv C g' β' s' a w':=by
 unfold LZ at he;split at he
 ·rename_i id ver p n;cases mw:s.obj id with
  |none=>rw[mw]at he;simp only[av]at he
  |some r=>
   obtain⟨v0,fr,c⟩:=r;rw[mw]at he;obtain⟨h1,h2⟩:=aD.1 he;obtain⟨⟨n',o'⟩,h3,h4⟩:=ay.1 h2;obtain⟨h5,h6⟩:=aD.1 h4;obtain⟨h7,h8⟩:=bP.1 h6;obtain⟨c',h9,aP8⟩:=ay.1 h8;obtain rfl:=aw.1 aP8;simp only[bO]at h7;simp only[ax,gE,dv]at h1;obtain⟨⟨aRQ,aL7⟩,J8⟩:=h1;subst aRQ h7 aL7;have di:=dI mw;obtain⟨ad,rfl,hb,hc⟩:=wJ hx;obtain⟨pl,hp,rfl⟩:=hc ⟨aS,c,di⟩;have hp:β id=aj pl:=hp;obtain⟨akK,_⟩:=qI J8;obtain⟨cs,hV,hO⟩:=hz.eg akK;have hOb:=h.bu id v0 aS c di;obtain⟨hcel',_⟩:=qI h5;have aMj:c.iD=aS\/c.iD=aL:=by cases c.iD <;> simp
   rcases aMj with hn | hn
   ·obtain⟨pl',cur,e,hp',hh,hg,hk,hVc⟩:=hOb.box hn;have hp':β id=aj pl':=hp';rw[hp]at hp';obtain rfl:pl=pl':=by simpa using hp'
    have hg:g pl.b= .own (.id id) 0:=hg;have hh:w.heap[pl.b]? =aj (.cells cur e (0,0)):=hh
    have hN:=ajT hk;have hNl:(cur.toList.take (c.v7 cur.size)).length=c.v7 cur.size:=by rw[dw,eX];omega
    obtain⟨u1,u2,u3⟩:=pR p c.strip (cur.toList.take (c.v7 cur.size)) n' o' v c' cs (VO.of hVc) h3 hV h9;have u4:=u2.to (u3.s9 hVc.s9);have xr:c'.size=c.strip.size:=by have e1:=u4.size;have e2:=hVc.size;rw[jc u1]at e1;omega
    rw[hNl]at u1;have aAy:(dB cur.toList n' cs).length=cur.toList.length:=jc (by have e1:cur.toList.length=cur.size:=eX;omega);have aVb:(dB cur.toList n' cs).take (c.v7 cur.size)=dB (cur.toList.take (c.v7 cur.size)) n' cs:=by
     conv=>lhs;rw[<-eJ (c.v7 cur.size) cur.toList]
     rw[EV (by rw[hNl];exact u1),List.take_append_of_le_length (by rw[jc (by rw[hNl];exact u1),hNl];exact aB _)];exact bG (by rw[jc (by rw[hNl];exact u1),hNl];exact aB _)
    have pV:=uq (P:=P) (w:=w) J8 hV hO (b:=pl.b) (off:=n') hh (by have e1:cur.toList.length=cur.size:=eX;have e2:cs.toArray.size=cs.length:=iq;omega);have ht:=Trans.setRow w hg (dB cur.toList n' cs).toArray;have hle:cM (s.env w g β) ((s.ba id (.obj v0 aS (c.wrap c'))).env (w.setRow pl.b (dB cur.toList n' cs).toArray) g β):=cM.ba di (aB _) ht (λ_ _=>rfl) (λ_=>rfl);refine⟨_,_,rfl,pV,g,β,h.step (cZ _ _ _) ht hle (iL.ba h.bu (by rw[di];simp) hle (λ_ _=>rfl) (λi ver fr c pl2 hi ZZ abD=>⟨setRow_other w pl.b pl2.b _ (h.apart hg hi ZZ abD),rfl⟩) ?_ (oG di λk v1 l e=>by rw[e]at hn;simp[aA.iD]at hn))⟩;exact Nw.obj ⟨pl,_,e,hp,setRow_heap w pl.b cur _ e (0,0) hh,hg,by rw[iq,aAy,eX];exact Ho hk u4.xI xr,by
     rw[II c u4.xI,iq,aAy,eX,MM u4.xI xr,show(dB cur.toList n' cs).toArray.toList=dB cur.toList n' cs from rfl,aVb];exact V.mono hle u4⟩
   ·cases c <;> first | (simp[aA.iD]at hn;done) | skip
    rotate_left
    ·have h3:(loc (.mp _ _ _) p).eval=_:=h3;obtain⟨_,rfl⟩:=ak2 h3;simp[aA.eg]at hcel'
    ·have h3:(loc (.rW _ _ _ _ _ _) p).eval=_:=h3;obtain⟨_,rfl⟩:=Z8 h3;simp[aA.eg]at hcel'
    ·have h3:(loc (.Ay _ _ _) p).eval=_:=h3;obtain⟨_,rfl⟩:=Z9 h3;simp[aA.eg]at hcel'
    rename_i e t l;obtain⟨asD,hOb⟩:=hOb;have hOb:(match β id with
     |none=>l=[]
     |some pl=>∃cur k,w.heap[pl.b]? =aj (.cells cur e (0,0))/\cur.size=pl.cap*t.size/\l.length<=pl.cap/\pl.cap<=maxLen/\g pl.b= .own (.id id) k/\
       k<=l.length*t.size/\(aS=aS->k=0)/\bo (cn (s.env w g β) t) (cur.toList.take (l.length*t.size)) l):=hOb
    rw[hp]at hOb;obtain⟨cur,k,q1,q2,q3,q4,q5,q6,q7,q8⟩:=hOb;have hk:=q7 rfl;subst hk;have hlen:=bo.length (λc x hx=>cn.size hx) q8;have xr:l.length*t.size<=cur.size:=by rw[q2];exact Nat.mul_le_mul_right _ q3
    obtain⟨u1,u2,u3⟩:=pR (E:=s.env w g β) p (.vec e t l) _ n' o' v c' cs q8 h3 hV h9;rw[hlen]at u1;have pV:=uq (P:=P) (w:=w) J8 hV hO (b:=pl.b) (off:=n') q1 au;cases c' <;> first | (exact u3.elim) | skip
    rename_i e' t' l';obtain⟨rfl,rfl,hl'⟩:=u3;have ht:=Trans.setRow w q5 (dB cur.toList n' cs).toArray;have hle:cM (s.env w g β) ((s.ba id (.obj v0 aS (.vec e' t' l'))).env (w.setRow pl.b (dB cur.toList n' cs).toArray) g β):=cM.ba di (aB _) ht (λ_ _=>rfl) (λ_=>rfl);refine⟨_,_,rfl,pV,g,β,h.step (cZ _ _ _) ht hle (iL.ba h.bu (by rw[di];simp) hle (λ_ _=>rfl) (λi ver fr c pl2 hi ZZ abD=>⟨setRow_other w pl.b pl2.b _ (h.apart q5 hi ZZ abD),rfl⟩) ?_ (oG di λk v1 l e=>by cases e))⟩;refine⟨asD,?_⟩;show(match β id with
     |none=>l'=[]
     |some pl=>_)
    rw[hp];have aAy:(dB cur.toList n' cs).length=cur.toList.length:=jc (by simp;omega);refine⟨_,0,setRow_heap w pl.b cur _ e' (0,0) q1,by rw[iq,aAy];simpa using q2,au,q4,q5,au,λ_=>rfl,?_⟩;have e2:(dB cur.toList n' cs).take (l'.length*t'.size)=dB (cur.toList.take (l.length*t'.size)) n' cs:=by
     rw[hl']
     conv=>lhs;rw[<-eJ (l.length*t'.size) cur.toList]
     rw[EV (by rw[hlen];exact u1),List.take_append_of_le_length (by rw[jc (by rw[hlen];exact u1),hlen];exact aB _)];exact bG (by rw[jc (by rw[hlen];exact u1),hlen];exact aB _)
    rw[show(dB cur.toList n' cs).toArray.toList=dB cur.toList n' cs from rfl,e2];exact bo.mono (λ_ _ hx=>hx.mono hle.mem) u2
 ·simp only[av]at he
theorem at4(h:Inv C g β s a w){T:TypeId}{n:Nat}{u:(Ty.jp n).den}{v:aA}{y z:Value}(hx:VS (s.env w g β) (.d (.jp n) u) y)(hz:VS (s.env w g β) v z)(J8:fits P T v=aL)(hn:P.cellsOf T=n):
  ∃ad w',y= .pointer (aj ad)/\(storeVar T ad z).run P w= .ok () w'/\∃g' β',Inv C g' β' s a w':=by
 obtain⟨b,off,rfl,hg,cur,e,hh,hle⟩:=aGR hx;have hg:g b= .gD:=hg;have hh:w.heap[b]? =aj (.cells cur e (0,0)):=hh
 obtain⟨akK,_⟩:=qI J8;obtain⟨cs,hV,hO⟩:=hz.eg akK;have xr:cs.length=n:=by rw[hV.size,<-hn];have:=J8;unfold fits at this;simp only[ax,gE]at this;exact this.1.2.symm
 have hb:off+cs.length<=cur.toList.length:=by have e1:cur.toList.length=cur.size:=eX;omega
 have pV:=uq (P:=P) (w:=w) J8 hV hO (b:=b) (off:=off) hh (by rw[xr];exact hle);have ht:=Trans.aNM w hg hh (new:=(dB cur.toList off cs).toArray) (by rw[iq,jc hb];exact eX);have aTW:cM (s.env w g β) (s.env (w.setRow b (dB cur.toList off cs).toArray) g β):=cM.same ht;refine⟨_,_,rfl,pV,g,β,h.step rfl ht aTW (iL.same h.bu aTW λi ver fr c pl hi hp=>⟨setRow_other w b pl.b _ λafX=> ?_,rfl⟩)⟩;have hl:(∃k,g pl.b= .own (.id i) k)\/(fr=aL/\g pl.b= .free):=((h.bu i ver fr c hi).label (pl:=pl) hp).2;rw[afX,hg]at hl;rcases hl with⟨k,hk⟩ | ⟨_,hk⟩ <;> cases hk
theorem awz(h:Inv C g β s a w){T:TypeId}{x v:bB}(ho:o.op= .store T x v){s':AS}(he:(LZ P s T (s.ev x) (s.ev v)).eval=aj s'):fp P o a w (gh C (s'.put o.dst .undef)):=by obtain⟨ad,w',hy,hr,g',β',hi⟩:=ar5 h (h.ev x) (h.ev v) he;refine .inr (.inl ⟨w',MT (f:=Instr.storeAt T (a.eval x) (a.eval v)) (by grind [execOp]) ?_,g',β',hi.put o.dst VS.undef⟩);grind [Instr.storeAt,Instr.sureAddr]
theorem aAG(h:Inv C g β s a w){T:TypeId}{x v:bB}(ho:o.op= .store T x v){n:Nat}(hx:(s.ev x).akV=aj n)(hf:fits P T (s.ev v)=aL)(hn:P.cellsOf T=n):fp P o a w (gh C (s.put o.dst .undef)):=by
 have h1:=h.ev x;obtain⟨u,hu⟩:∃u:(Ty.jp n).den,s.ev x= .d (.jp n) u:=by
  cases hs:s.ev x with
  |d t y=>cases t <;> rw[hs]at hx <;> simp only[aA.akV,bf,reduceCtorEq]at hx;subst hx;exact⟨y,rfl⟩
  |_=>rw[hs]at hx;simp[aA.akV]at hx
 rw[hu]at h1;obtain⟨ad,w',hy,hr,g',β',hi⟩:=at4 h h1 (h.ev v) hf hn;refine .inr (.inl ⟨w',MT (f:=Instr.storeAt T (a.eval x) (a.eval v)) (by simp only[execOp,ho]) ?_,g',β',hi.put o.dst VS.undef⟩);simp[Instr.storeAt,Instr.sureAddr,hy,hr]
end
end Go.Ab
namespace Go.Ab
section
variable {P:Program} {C:Ctx} {g:Nat->iU} {β:Id->Option Pl} {s:AS} {a:Act} {w:World} {o:Oper}
theorem aiB(h:Inv C g β s a w){x:bB}(ho:o.op= .move x\/o.op= .assign x):fp P o a w (gh C (s.put o.dst (s.ev x))):=by
 refine h.value (h.ev x) ?_
 rcases ho with ho | ho <;> simp[execOp,ho]
theorem aBE(h:Inv C g β s a w){c x y:bB}(ho:o.op= .pick c x y){v:aA}(he:(ayy (s.ev c) (s.ev x) (s.ev y)).eval=aj v):fp P o a w (gh C (s.put o.dst v)):=by
 have hc:=h.ev c;have hx:=h.ev x;have hy:=h.ev y;unfold ayy at he;split at he
 ·rename_i b hb;rw[hb]at hc;have aYP:=Rz hc;have hr:(execOp a.eval o).run P w= .ok (.value (if b then a.eval x else a.eval y)) w:=by simp_all [execOp,asBool]
  split at he
  ·obtain rfl:=aw.1 he;refine h.value ?_ hr
   grind
  ·cases b with
   |true=>
    simp[Out.eval]at he;exact h.value (by grind) hr
   |false=>
    simp[Out.eval]at he;exact h.value (by grind) hr
 grind [Out.eval]
theorem agi(h:Inv C g β s a w){x:bB}(ho:o.op= .nilCheck x){s':AS}(he:(match s.ev x with
  | .ptr id v p n=>Out.ok (s.put o.dst (.ptr id v p n))
  | .dx t y=> .ok (s.put o.dst (.dx t y))
  | .d (.nK t) y=> .get (y:Option t.den) λy=> .ok (s.put o.dst (.dx t y))
  | .d (.gF t) y=> .get (y:Option (Nat×t.den)) λy=> .ok (s.put o.dst (.dx t y.2))
  | .d (.jp n) _=> .ok (s.put o.dst (.d (.jp n) ()))
  | .fn f c=> .ok (s.put o.dst (.fn f c))
  |_=> .fail).eval=aj s'):fp P o a w (gh C s'):=by
 have hx:=h.ev x;split at he
 ·rename_i id v p n hv;obtain rfl:=aw.1 he;rw[hv]at hx;obtain⟨ad,hy,_⟩:=wJ hx;exact h.value hx (by simp[execOp,ho,hy])
 ·rename_i t y hv;obtain rfl:=aw.1 he;rw[hv]at hx;obtain⟨b,off,vs,hy,_⟩:=mW hx;exact h.value hx (by simp[execOp,ho,hy])
 ·rename_i t y hv;obtain⟨z,e,he⟩:=jm.1 he;subst e;obtain rfl:=aw.1 he;rw[hv]at hx;have hx:=Sk hx;obtain⟨b,off,vs,hy,_⟩:=mW hx;exact h.value hx (by simp[execOp,ho,hy])
 ·rename_i t y hv;obtain⟨z,e,he⟩:=jm.1 he;subst e;obtain rfl:=aw.1 he;rw[hv]at hx;have hx:=SB hx;obtain⟨b,off,vs,hy,_⟩:=mW hx;exact h.value hx (by simp[execOp,ho,hy])
 ·rename_i n u hv;obtain rfl:=aw.1 he;rw[hv]at hx;obtain⟨b,off,hy,_⟩:=aGR hx;exact h.value hx (by simp[execOp,ho,hy])
 ·rename_i f c hv;obtain rfl:=aw.1 he;rw[hv]at hx;obtain⟨cs,hV,hO⟩:=hx.eg rfl;simp only[V]at hV;obtain⟨vs,e,hc⟩:=hV;have hO':cs=[a.eval x]:=hO;rw[e]at hO';have hy:a.eval x= .func (.func f) #[] vs.toArray:=by simpa using hO'.symm
  refine h.value (v:= .fn f c) ⟨cs,by simp only[V];exact⟨vs,e,hc⟩,hO⟩ (by simp[execOp,ho,hy])
 ·simp only[av]at he
theorem ao9{op:BinOp}{k k':kY}{x y:Int}{v:aA}(he:(aGO op k x k' y).eval=aj v)(T:TypeId)(E:Env):
  ∃z,(binOp op T (.int k x) (.int k' y)).run P w= .ok z w/\VS E v z:=by
 unfold aGO at he;have same:∀(hk:decide (k=k')=aL),k=k':=λhk=>by simpa using hk
 cases op with
 |shl=>
  obtain⟨h1,h2⟩:=bP.1 he;obtain rfl:=aw.1 h2;have h1:¬y < 0:=by simpa using h1
  exact⟨_,by simp[binOp,Op.shift,h1],kH _ _⟩
 |shr=>
  obtain⟨h1,h2⟩:=bP.1 he;obtain rfl:=aw.1 h2;have h1:¬y < 0:=by simpa using h1
  exact⟨_,by simp[binOp,Op.shift,h1],kH _ _⟩
 |quo=>
  obtain⟨h1,h2⟩:=aD.1 he;obtain rfl:=same h1;obtain⟨h3,h4⟩:=bP.1 h2;obtain rfl:=aw.1 h4;have h3:y≠0:=by simpa using h3
  exact⟨_,by simp[binOp,Op.intDiv,h3],kH _ _⟩
 |rem=>
  obtain⟨h1,h2⟩:=aD.1 he;obtain rfl:=same h1;obtain⟨h3,h4⟩:=bP.1 h2;obtain rfl:=aw.1 h4;have h3:y≠0:=by simpa using h3
  exact⟨_,by simp[binOp,Op.intDiv,h3],kH _ _⟩
 |add | sub | mul=>
  obtain⟨h1,h2⟩:=aD.1 he;obtain rfl:=same h1;obtain rfl:=aw.1 h2;exact⟨_,by simp[binOp,Op.intArith],kH _ _⟩
 |and | or | xor | andNot=>
  obtain⟨h1,h2⟩:=aD.1 he;obtain rfl:=same h1;obtain rfl:=aw.1 h2;refine⟨_,?_,kH _ _⟩;unfold binOp Op.intBits;simp[db]
 |eql | neq | lss | leq | gtr | geq=>
  obtain⟨h1,h2⟩:=aD.1 he;obtain rfl:=same h1;obtain rfl:=aw.1 h2;refine⟨_,?_,yx _⟩;simp[binOp,Op.intCmp]
theorem ar6{op:BinOp}{x y:ByteArray}{v:aA}(he:(aJ5 op x y).eval=aj v)(T:TypeId)(E:Env):
  ∃z,(binOp op T (.string x) (.string y)).run P w= .ok z w/\VS E v z:=by
 unfold aJ5 at he;cases op <;> simp[av]at he
 case add=>
  obtain⟨h1,h2⟩:=bP.1 he;obtain rfl:=aw.1 h2;refine⟨.string (x++y),?_,ajM _⟩;simp_all [Op.stringOp,binOp]
 all_goals
  obtain rfl:=aw.1 he;exact⟨_,by simp[binOp,Op.stringOp],yx _⟩
theorem Fj{op:BinOp}{T:TypeId}{x y:bB}{u v:Value}(h1:u≠ .nilIface)(h2:uS u=aS):(eqGuard op T x y u v).run P w= .ok () w:=by
 unfold eqGuard
 all_goals (cases u <;> simp_all [uS])
theorem Bz{T:TypeId}{b:Bool}(h:P6 P T b=aL):∃i,P.info? T=aj i/\∀w,(isAgg T).run P w= .ok b w:=by
 unfold P6 at h;cases hu:P.underlying T with
 |none=>grind
 |some d=>
  obtain⟨i,hi⟩:=ax0 hu;refine⟨i,hi,λw=> ?_⟩;rw[hu]at h;unfold isAgg;rw[dM,run_underlying hu w];cases d <;> simp at h <;> simp[h]
theorem z0{T:TypeId}{b:Bool}(h:P6 P T b=aL){cs:List Value}{off n:Nat}(hn:P.cellsOf T=n)(hb:b=aS->n=1)(hl:off+n<=cs.length):
  ∃y,(part T cs.toArray off).run P w= .ok y w/\fW b ((cs.drop off).take n) y:=by
 obtain⟨i,hi,akI⟩:=Bz h;rw[oB hi]at hn;unfold part;cases b with
 |true=>
  simp_all [run_sizeOf,fW]
 |false=>
  have h1:=hb rfl;have iB:off < cs.length:=au;refine⟨cs[off],?_,?_⟩
  ·simp_all
  grind [aq,fW]
theorem z6{t:Ty}(h:t.agg=aS):t.size=1:=by cases t <;> first | rfl | grind [Ty.agg]
theorem abW{α:Type}(f:α->α->Bool)(x y:α)(xs ys:List α):mU f (x::xs) (y::ys)=(f x y && mU f xs ys):=rfl
theorem abO{E:Env}(hE:E.w=w){T U:TypeId}(hT:P.underlying T=aj (.pointer U))(hU:aNs P U=aL){t:Ty}(hn:t.ayf=aL){x y:(Ty.gF t).den}{cx cy:List Value}(hx:cn E (.gF t) cx x)(hy:cn E (.gF t) cy y){u v:Value}(hu:cx=[u])(hv:cy=[v]):
  (∃a,u= .pointer a)/\(∃b,v= .pointer b)/\∀d,(dg (d+1) T u v).run P w= .ok ((Ty.gF t).beq x y) w:=by
 unfold aNs at hU;split at hU <;> try (cases hU;done)
 rename_i i hi;have xr:i.size≠0:=by simpa using hU
 subst hu hv;have yes:u=v->(Ty.gF t).beq x y=aL:=λe=>by subst e;exact @qD _ ((Ty.gF t).ato x y) (cn.uniq (t:= .gF t) (by simpa only[Ty.ayf]using hn) hx hy)
 have no:x≠y->(Ty.gF t).beq x y=aS:=λe=> @decide_eq_false _ ((Ty.gF t).ato x y) e
 simp only[cn]at hx hy;cases aEg:(x:Option (Nat×t.den)) with
 |none=>
  have e1:=hx.1 aEg;simp only[ct,gR]at e1;subst e1;cases aMk:(y:Option (Nat×t.den)) with
  |none=>
   have e2:=hy.1 aMk;simp only[ct,gR]at e2;subst e2;exact⟨⟨_,rfl⟩,⟨_,rfl⟩,λd=>by rw[aEg,aMk]at yes;rw[yes rfl];simp[dg,run_underlying hT]⟩
  |some b=>
   obtain⟨cb,Tb,vb,e2,hb,_⟩:=hy.2 b aMk;simp only[ct,gR]at e2;subst e2;exact⟨⟨_,rfl⟩,⟨_,rfl⟩,λd=>by rw[aEg,aMk]at no;rw[no (λe=>by cases e)];simp[dg,run_underlying hT]⟩
 |some a=>
  obtain⟨ca,Ta,va,e1,ha,_⟩:=hx.2 a aEg;simp only[ct,gR]at e1;subst e1;cases aMk:(y:Option (Nat×t.den)) with
  |none=>
   have e2:=hy.1 aMk;simp only[ct,gR]at e2;subst e2;exact⟨⟨_,rfl⟩,⟨_,rfl⟩,λd=>by rw[aEg,aMk]at no;rw[no (λe=>by cases e)];simp[dg,run_underlying hT]⟩
  |some b=>
   obtain⟨cb,Tb,vb,e2,hb,_⟩:=hy.2 b aMk;simp only[ct,gR]at e2;subst e2;refine⟨⟨_,rfl⟩,⟨_,rfl⟩,λd=> ?_⟩;rw[aEg,aMk]at yes no;by_cases vQ:a.1=b.1
   ·rw[yes (by rw[vQ])];simp[dg,run_underlying hT,run_sizeOf hi,xr,vQ,run_sameAddr_same]
   ·rw[no (λe=>vQ (congrArg Prod.fst (bh e)))];have hd:=run_sameAddr_other (P:=P) w (a:=⟨a.1,0,aF⟩) (b:=⟨b.1,0,aF⟩) (by intro e;exact vQ (congrArg Addr.block e)) (hE▸ha.2) (hE▸hb.2);simp[dg,run_underlying hT,run_sizeOf hi,xr,hd]
theorem yE(E:Env)(hE:E.w=w):∀(n:Nat) (T:TypeId) (t:Ty),vl P n T t=aL->∀(d:Nat),n<=d->∀(cx cy:List Value) (x y:t.den) (u v:Value),cn E t cx x->cn E t cy y->fW t.agg cx u->fW t.agg cy v->
  (dg d T u v).run P w= .ok (t.beq x y) w
 | 0,T,t,h,_,_,_,_,_,_,_,_,_,_,_,_=>by simp[vl]at h
 |n+1,T,t,h,0,hd,_,_,_,_,_,_,_,_,_,_=>au
 |n+1,T,t,h,d+1,hd,cx,cy,x,y,u,v,hx,hy,hu,hv=>by
  simp only[vl]at h;split at h
  ·rename_i k k' hT;simp only[cn]at hx hy;have e1:cx=[u]:=hu;have e2:cy=[v]:=hv;rw[hx]at e1;rw[hy]at e2;simp only[ct,gR]at e1 e2;subst e1 e2;rw[run_equalIn_int w d T _ _ _ _ hT];rfl
  ·rename_i hT;simp only[cn]at hx hy;have e1:cx=[u]:=hu;have e2:cy=[v]:=hv;rw[hx]at e1;rw[hy]at e2;simp only[ct,gR]at e1 e2;subst e1 e2;rw[run_equalIn_bool' w d T _ _ hT];rfl
  ·rename_i hT;simp only[cn]at hx hy;have e1:cx=[u]:=hu;have e2:cy=[v]:=hv;rw[hx]at e1;rw[hy]at e2;simp only[ct,gR]at e1 e2;subst e1 e2;rw[run_equalIn_string w d T _ _ hT];rfl
  ·rename_i U t' hT;simp only[ax]at h;exact(abO hE hT h.1 h.2 hx hy hu hv).2.2 d
  ·rename_i m e m' t' hT;simp only[ax,gE]at h;obtain⟨⟨⟨⟨rfl,aRS⟩,xr⟩,Oe⟩,zE⟩:=h;simp only[cn]at hx hy;obtain⟨aUV,aXE⟩:=hx;obtain⟨aXV,aYQ⟩:=hy;have e1:u= .agg cx.toArray:=hu;have e2:v= .agg cy.toArray:=hv;subst e1 e2;obtain⟨i,hi,akI⟩:=Bz Oe;have hsz':=xr;rw[oB hi]at hsz';simp only[dg,dM,run_underlying hT,cU,run_sizeOf hi,hsz'];simp only[Std.Legacy.Range.forIn_eq_forIn_range'];have hm:([:m]:Std.Legacy.Range).size=m:=by simp
   rw[hm];have asD:∀c z,cn E t' c z->c.length=t'.size:=λc z hz=>hz.size
   have bx:t'.agg=aS->t'.size=1:=z6
   have key:∀(k:Nat) (x y:List t'.den) (j:Nat),x.length=k->y.length=k->bo (cn E t') (cx.drop (j*t'.size)) x->bo (cn E t') (cy.drop (j*t'.size)) y->
     (forIn (List.range' j k) ((aF,()):Option Bool×Unit) λi __s=>(do
      let __do_lift <-part e cx.toArray (i*t'.size)
      let __do_lift_1 <-part e cy.toArray (i*t'.size)
      let __do_lift <-dg d e __do_lift __do_lift_1
      if(!__do_lift)=aL then pure (ForInStep.done (aj aS,())) else pure (ForInStep.yield (aF,())):Sem (ForInStep (Option Bool×Unit)))).run P w= .ok (if mU t'.beq x y then aF else aj aS,()) w:=by
    intro k
    induction k with
    |zero=>
     simp_all [mU]
    |succ k ih=>
     intro x y j hx hy hcx' hcy';cases x with
     |nil=>grind
     |cons x0 xs=>
      cases y with
      |nil=>grind
      |cons y0 ys=>
       have gx:=bo.get asD hcx' 0 (by simp);have gy:=bo.get asD hcy' 0 (by simp);simp only[Nat.zero_mul,aO,List.getElem_cons_zero]at gx gy;have lenx:((cx.drop (j*t'.size)).take t'.size).length=t'.size:=gx.size;have leny:((cy.drop (j*t'.size)).take t'.size).length=t'.size:=gy.size;have Z0:t'.size≠0:=by grind
       have aUR:j*t'.size+t'.size<=cx.length:=by grind
       have aXQ:j*t'.size+t'.size<=cy.length:=by grind
       obtain⟨ux,h1,o1⟩:=z0 (w:=w) Oe xr bx (cs:=cx) (off:=j*t'.size) aUR;obtain⟨uy,h2,o2⟩:=z0 (w:=w) Oe xr bx (cs:=cy) (off:=j*t'.size) aXQ;have h3:=yE E hE n e t' zE d au _ _ x0 y0 ux uy gx gy o1 o2;have nx:bo (cn E t') (cx.drop ((j+1)*t'.size)) xs:=by have:=bo.drop asD 1 hcx';grind [gO,hP]
       have ny:bo (cn E t') (cy.drop ((j+1)*t'.size)) ys:=by have:=bo.drop asD 1 hcy';grind [gO]
       have:=ih xs ys (j+1) (by grind) (by grind) nx ny;rw[List.range'_succ,List.forIn_cons];simp only[dM,h1,h2,h3,cU,abW];grind [Sem.run_pure,cU]
   have:=key m x y 0 aUV aXV (by grind) (by grind);rw[this];show _=Result.ok (mU t'.beq x y) w;cases mU t'.beq x y <;> rfl
  ·rename_i t0 _ _ fs hT;simp only[ax,dv]at h;obtain⟨vR,aQg⟩:=h;have hF:P.fieldsOf T=fs:=by grind [Program.fieldsOf]
   have hT':P.underlying T=aj (.struct (P.fieldsOf T)):=by grind
   have key:∀(fl:List Field) (t:Ty) (off:Nat),PQ P (vl P n) fl t off=aL->∀(x y:t.den),cn E t (cx.drop off) x->cn E t (cy.drop off) y->
     (Op.eqFields d cx.toArray cy.toArray fl).run P w= .ok (t.beq x y) w:=by
    intro fl
    induction fl with
    |nil=>
     intro t off hc x y _ _;cases t <;> first | (simp[PQ]at hc;done) | rfl
    |cons f fl ih=>
     intro t off hc x y hx hy;cases t <;> first | (simp[PQ]at hc;done) | skip
     rename_i ta tb;simp only[PQ,ax,dv,gE,mS]at hc;obtain⟨⟨⟨⟨⟨⟨aWN,aQn⟩,hz⟩,xr⟩,Oe⟩,zE⟩,aS9⟩:=hc;simp only[cn]at hx hy;obtain⟨xa,xb,ex,aTh,aYf⟩:=hx;obtain⟨ya,yb,ey,aW0,aY3⟩:=hy;have bx:ta.agg=aS->ta.size=1:=z6;have lx:xa.length=ta.size:=aTh.size;have ly:ya.length=ta.size:=aW0.size;have split:∀(cs xa xb:List Value),cs.drop off=xa++xb->xa.length=ta.size->(cs.drop off).take ta.size=xa/\cs.drop (off+ta.size)=xb/\off+ta.size<=cs.length:=by intro cs xa xb e l;refine⟨by grind,by rw[<-gO,e];grind,?_⟩;grind [ai]
     obtain⟨sx1,sx2,sx3⟩:=split cx xa xb ex lx;obtain⟨sy1,sy2,sy3⟩:=split cy ya yb ey ly;obtain⟨ux,h1,o1⟩:=z0 (w:=w) Oe xr bx (cs:=cx) (off:=off) sx3;obtain⟨uy,h2,o2⟩:=z0 (w:=w) Oe xr bx (cs:=cy) (off:=off) sy3;rw[sx1]at o1;rw[sy1]at o2;have h3:=yE E hE n f.type ta zE d au _ _ x.1 y.1 ux uy aTh aW0 o1 o2;simp only[Op.eqFields,ne_eq,aWN,not_false_eq_true,bE,dM,aQn,h1,h2,h3,cU];show _=Result.ok (ta.beq x.1 y.1 && tb.beq x.2 y.2) w;rcases my (ta.beq x.1 y.1) with hb | hb
     ·grind
     ·simp[hb]
   have Oe:t0.agg=aL:=by cases hl:fs.toList <;> rw[hl]at aQg <;> cases t0 <;> first | rfl | (simp[PQ]at aQg;done)
   rw[Oe]at hu hv;have e1:u= .agg cx.toArray:=hu;have e2:v= .agg cy.toArray:=hv;subst e1 e2;rw[run_equalIn_struct w d T _ _ hT' vR,hF];exact key fs.toList t0 0 aQg x y (by grind) (by grind)
  grind
end
end Go.Ab
namespace Go.Ab
section
variable {P:Program} {C:Ctx} {g:Nat->iU} {β:Id->Option Pl} {s:AS} {a:Act} {w:World} {o:Oper}
theorem aHM{E:Env}{v:aA}{y c:Value}(h:VS E v y)(hc:v.eg=aL)(ha:v.agg=aS)(hV:∀cs,V E v cs->cs=[c]):y=c:=by have:=h.single hc ha;grind
theorem Ex{E:Env}{y:Value}(h:VS E .iQ y):y= .pointer aF:=aHM h rfl rfl λcs hv=>by grind [V]
theorem aad{E:Env}{y:Value}(h:VS E .xu y):y= .nilFunc:=aHM h rfl rfl λcs hv=>by grind [V]
theorem abl{E:Env}{f:FuncId}{c:aA}{y:Value}(h:VS E (.fn f c) y):∃vs,y= .func (.func f) #[] vs.toArray/\VC E c vs:=by have h1:=h.single rfl rfl;grind [V]
theorem eC{T:TypeId}{u v:Value}{b:Bool}(h:∀d,(dg (d+1) T u v).run P w= .ok b w):(Op.equal T u v).run P w= .ok b w:=h 9999
theorem abf{T:TypeId}{x y:aA}{u v:Value}{E:Env}(hx:VS E x u)(hy:VS E y v){b:Bool}(he:(Bk P T x y).eval=aj b)(hE:E.w=w):
  (Op.equal T u v).run P w= .ok b w/\u≠ .nilIface/\(uS u=aS\/(uS v=aL/\P.eqGuardType P.depth T=aS))/\
   (∀op,binOp op T u v=(match op with | .eql=>do pure (.bool (<-Op.equal T u v)) | .neq=>do pure (.bool (!(<-Op.equal T u v))) | _=>binOp op T u v)):=by
 unfold Bk at he;split at he
 ·rename_i t x' t' y';obtain⟨y'',h1,h2⟩:=ay.1 he;obtain⟨e,h1⟩:=jj (gS.1 h1);obtain rfl:t'=t:=Ty.gF.inj e;simp only at h1;subst h1;obtain⟨h3,h4⟩:=aD.1 h2;obtain rfl:=aw.1 h4;simp only[ax]at h3;obtain⟨h1,hn⟩:=h3;unfold aTj at h1;split at h1 <;> try (cases h1;done)
  rename_i U hT;obtain⟨cx,hVx,hOx⟩:=hx.eg rfl;obtain⟨cy,hVy,hOy⟩:=hy.eg rfl;simp only[V]at hVx hVy;obtain⟨⟨_,rfl⟩,⟨_,rfl⟩,hr⟩:=abO hE hT h1 hn hVx hVy hOx hOy;exact⟨eC hr,by simp,.inl rfl,λop=>by cases op <;> rfl⟩
 ·rename_i t x' t' y' _;obtain⟨y'',h1,h2⟩:=ay.1 he;obtain⟨rfl,h1⟩:=jj (gS.1 h1);simp only at h1;subst h1;obtain⟨h3,h4⟩:=aD.1 h2;obtain rfl:=aw.1 h4;simp only[ax,tN,dv,bO]at h3;obtain⟨h3,h5⟩:=h3;obtain⟨cx,hVx,hOx⟩:=hx.eg rfl;obtain⟨cy,hVy,hOy⟩:=hy.eg rfl;simp only[V]at hVx hVy;have hr:=yE (w:=w) E hE depth T t' h5 10000 eG cx cy x' y' u v hVx hVy hOx hOy;refine⟨hr,?_⟩;rcases h3 with⟨Oe,aXN⟩ | rfl
  ·have hOx':fW t'.agg cx u:=hOx;have hOy':fW t'.agg cy v:=hOy;rw[Oe]at hOx' hOy';have e1:u= .agg cx.toArray:=hOx';have e2:v= .agg cy.toArray:=hOy';subst e1 e2;exact⟨by simp,.inr ⟨rfl,aXN⟩,λop=>by cases op <;> rfl⟩
  ·simp only[cn]at hVx hVy;have e1:cx=[u]:=hOx;have e2:cy=[v]:=hOy;rw[hVx]at e1;rw[hVy]at e2;simp only[ct,gR]at e1 e2;subst e1 e2;exact⟨by simp,.inl rfl,λop=>by cases op <;> rfl⟩
 ·obtain⟨h1,h2⟩:=aD.1 he;obtain rfl:=aw.1 h2;rw[lZ hx,lZ hy];unfold Bk.isSl at h1;split at h1 <;> try (cases h1;done)
  rename_i e hT;exact⟨eC λd=>by simp[dg,run_underlying hT],by simp,.inl rfl,λop=>by cases op <;> rfl⟩
 ·obtain⟨h1,h2⟩:=aD.1 he;obtain⟨h3,h4⟩:=bP.1 h2;obtain rfl:=aw.1 h4;obtain⟨ad,cap,vs,rfl,_,hs,_⟩:=xd hx;rw[lZ hy];have hs:=hs (by simpa using h3);obtain⟨ad',rfl⟩:=Option.isSome_iff_exists.1 hs;unfold Bk.isSl at h1;split at h1 <;> try (cases h1;done)
  rename_i e hT;exact⟨eC λd=>by simp[dg,run_underlying hT],by simp,.inl rfl,λop=>by cases op <;> rfl⟩
 ·obtain⟨h1,h2⟩:=aD.1 he;obtain⟨h3,h4⟩:=bP.1 h2;obtain rfl:=aw.1 h4;obtain⟨ad,cap,vs,rfl,_,hs,_⟩:=xd hy;rw[lZ hx];have hs:=hs (by simpa using h3);obtain⟨ad',rfl⟩:=Option.isSome_iff_exists.1 hs;unfold Bk.isSl at h1;split at h1 <;> try (cases h1;done)
  rename_i e hT;exact⟨eC λd=>by simp[dg,run_underlying hT],by simp,.inl rfl,λop=>by cases op <;> rfl⟩
 ·obtain⟨h1,h2⟩:=aD.1 he;obtain⟨h3,h4⟩:=bP.1 h2;obtain rfl:=aw.1 h4;obtain⟨ad,cap,rfl,_,hs,_⟩:=uu hx;rw[lZ hy];have hs:=hs (by simpa using h3);obtain⟨ad',rfl⟩:=Option.isSome_iff_exists.1 hs;unfold Bk.isSl at h1;split at h1 <;> try (cases h1;done)
  rename_i e hT;exact⟨eC λd=>by simp[dg,run_underlying hT],by simp,.inl rfl,λop=>by cases op <;> rfl⟩
 ·obtain⟨h1,h2⟩:=aD.1 he;obtain⟨h3,h4⟩:=bP.1 h2;obtain rfl:=aw.1 h4;obtain⟨ad,cap,rfl,_,hs,_⟩:=uu hy;rw[lZ hx];have hs:=hs (by simpa using h3);obtain⟨ad',rfl⟩:=Option.isSome_iff_exists.1 hs;unfold Bk.isSl at h1;split at h1 <;> try (cases h1;done)
  rename_i e hT;exact⟨eC λd=>by simp[dg,run_underlying hT],by simp,.inl rfl,λop=>by cases op <;> rfl⟩
 ·obtain⟨h1,h2⟩:=aD.1 he;obtain rfl:=aw.1 h2;rw[Ex hx,Ex hy];unfold Bk.isPt at h1;split at h1 <;> try (cases h1;done)
  rename_i e hT;exact⟨eC λd=>by simp[dg,run_underlying hT],by simp,.inl rfl,λop=>by cases op <;> rfl⟩
 ·obtain⟨h1,h2⟩:=aD.1 he;obtain rfl:=aw.1 h2;obtain⟨ad,rfl,_⟩:=wJ hx;rw[Ex hy];unfold Bk.isPt at h1;split at h1 <;> try (cases h1;done)
  rename_i e hT;exact⟨eC λd=>by simp[dg,run_underlying hT],by simp,.inl rfl,λop=>by cases op <;> rfl⟩
 ·obtain⟨h1,h2⟩:=aD.1 he;obtain rfl:=aw.1 h2;obtain⟨ad,rfl,_⟩:=wJ hy;rw[Ex hx];unfold Bk.isPt at h1;split at h1 <;> try (cases h1;done)
  rename_i e hT;exact⟨eC λd=>by simp[dg,run_underlying hT],by simp,.inl rfl,λop=>by cases op <;> rfl⟩
 ·rename_i t q;obtain⟨h1,h2⟩:=aD.1 he;obtain rfl:=aw.1 h2;unfold Bk.isPt at h1;split at h1 <;> try (cases h1;done)
  rename_i e hT;rw[Ex hy];cases q with
  |none=>
   rw[aie hx];exact⟨eC λd=>by simp[dg,run_underlying hT],by simp,.inl rfl,λop=>by cases op <;> rfl⟩
  |some z=>
   obtain⟨b,off,vs,rfl,_⟩:=mW (Sk hx);exact⟨eC λd=>by simp[dg,run_underlying hT],by simp,.inl rfl,λop=>by cases op <;> rfl⟩
 ·rename_i t q;obtain⟨h1,h2⟩:=aD.1 he;obtain rfl:=aw.1 h2;unfold Bk.isPt at h1;split at h1 <;> try (cases h1;done)
  rename_i e hT;rw[Ex hx];cases q with
  |none=>
   rw[aie hy];exact⟨eC λd=>by simp[dg,run_underlying hT],by simp,.inl rfl,λop=>by cases op <;> rfl⟩
  |some z=>
   obtain⟨b,off,vs,rfl,_⟩:=mW (Sk hy);exact⟨eC λd=>by simp[dg,run_underlying hT],by simp,.inl rfl,λop=>by cases op <;> rfl⟩
 ·rename_i t q;obtain⟨h1,h2⟩:=aD.1 he;obtain rfl:=aw.1 h2;unfold Bk.isPt at h1;split at h1 <;> try (cases h1;done)
  rename_i e hT;rw[Ex hy];cases q with
  |none=>
   rw[air hx];exact⟨eC λd=>by simp[dg,run_underlying hT],by simp,.inl rfl,λop=>by cases op <;> rfl⟩
  |some z=>
   obtain⟨b,off,vs,rfl,_⟩:=mW (SB hx);exact⟨eC λd=>by simp[dg,run_underlying hT],by simp,.inl rfl,λop=>by cases op <;> rfl⟩
 ·rename_i t q;obtain⟨h1,h2⟩:=aD.1 he;obtain rfl:=aw.1 h2;unfold Bk.isPt at h1;split at h1 <;> try (cases h1;done)
  rename_i e hT;rw[Ex hx];cases q with
  |none=>
   rw[air hy];exact⟨eC λd=>by simp[dg,run_underlying hT],by simp,.inl rfl,λop=>by cases op <;> rfl⟩
  |some z=>
   obtain⟨b,off,vs,rfl,_⟩:=mW (SB hy);exact⟨eC λd=>by simp[dg,run_underlying hT],by simp,.inl rfl,λop=>by cases op <;> rfl⟩
 ·obtain⟨h1,h2⟩:=aD.1 he;obtain rfl:=aw.1 h2;rw[aad hx,aad hy];unfold Bk.isFn at h1;split at h1 <;> try (cases h1;done)
  rename_i hT;exact⟨eC λd=>by simp[dg,run_underlying hT],by simp,.inl rfl,λop=>by cases op <;> rfl⟩
 ·obtain⟨h1,h2⟩:=aD.1 he;obtain rfl:=aw.1 h2;obtain⟨vs,rfl,_⟩:=abl hx;rw[aad hy];unfold Bk.isFn at h1;split at h1 <;> try (cases h1;done)
  rename_i hT;exact⟨eC λd=>by simp[dg,run_underlying hT],by simp,.inl rfl,λop=>by cases op <;> rfl⟩
 ·obtain⟨h1,h2⟩:=aD.1 he;obtain rfl:=aw.1 h2;obtain⟨vs,rfl,_⟩:=abl hy;rw[aad hx];unfold Bk.isFn at h1;split at h1 <;> try (cases h1;done)
  rename_i hT;exact⟨eC λd=>by simp[dg,run_underlying hT],by simp,.inl rfl,λop=>by cases op <;> rfl⟩
 ·simp only[av]at he
theorem aoD{op:BinOp}{T:TypeId}{x y:bB}{u v:Value}(hu:uS u=aL)(hv:uS v=aL)(hm:P.eqGuardType P.depth T=aS):(eqGuard op T x y u v).run P w= .ok () w:=by
 cases u <;> first | (simp[uS]at hu;done) | skip
 cases v <;> first | (simp[uS]at hv;done) | skip
 exact run_eqGuard_agg w op T x y _ _ hm
theorem as1(h:Inv C g β s a w){op:BinOp}{T U:TypeId}{x y:bB}(ho:o.op= .binOp op T x y U){v:aA}(he:(aPC P T op (s.ev x) (s.ev y)).eval=aj v):fp P o a w (gh C (s.put o.dst v)):=by
 have hx:=h.ev x;have hy:=h.ev y;have fin:∀z,(binOp op T (a.eval x) (a.eval y)).run P w= .ok z w->(eqGuard op T x y (a.eval x) (a.eval y)).run P w= .ok () w->VS (s.env w g β) v z->fp P o a w (gh C (s.put o.dst v)):=by
  intro z h1 h2 h3;refine h.value h3 ?_
  simp[execOp,ho,h1,h2]
 unfold aPC at he;split at he
 ·rename_i k n k' m hn hm;rw[hn]at hx;rw[hm]at hy;have e1:=wo hx;have e2:=wo hy;obtain⟨z,h1,h2⟩:=ao9 (P:=P) (w:=w) he T (s.env w g β);grind [Fj,uS]
 ·rename_i n m hn hm;rw[hn]at hx;rw[hm]at hy;have e1:=L0 hx;have e2:=L0 hy;obtain⟨z,h1,h2⟩:=ar6 (P:=P) (w:=w) he T (s.env w g β);simp_all [eqGuard]
 ·have grd:(uS (a.eval x)=aS\/(uS (a.eval y)=aL/\P.eqGuardType P.depth T=aS))->a.eval x≠ .nilIface->(eqGuard op T x y (a.eval x) (a.eval y)).run P w= .ok () w:=by grind [Fj,aoD]
  split at he
  ·obtain⟨b,h1,h2⟩:=ay.1 he;obtain rfl:=aw.1 h2;obtain⟨q1,q2,q3,q4⟩:=abf (w:=w) hx hy h1 rfl;refine fin (.bool b) ?_ (grd q3 q2) (yx b)
   rw[q4 .eql];simp[q1]
  ·obtain⟨b,h1,h2⟩:=ay.1 he;obtain rfl:=aw.1 h2;obtain⟨q1,q2,q3,q4⟩:=abf (w:=w) hx hy h1 rfl;refine fin (.bool (!b)) ?_ (grd q3 q2) (yx (!b))
   rw[q4 .neq];simp[q1]
  grind [av]
theorem aD2(h:Inv C g β s a w){op:UnOp}{T:TypeId}{x:bB}(ho:o.op= .unOp op T x){v:aA}(he:(aUi op (s.ev x)).eval=aj v):fp P o a w (gh C (s.put o.dst v)):=by
 have hx:=h.ev x;unfold aUi at he;split at he
 ·rename_i b hb;rw[hb]at hx;obtain rfl:=aw.1 he;exact h.value (yx _) (by simp[execOp,ho,Rz hx,Op.unary])
 ·rename_i k n hb;rw[hb]at hx;obtain rfl:=aw.1 he;exact h.value (kH _ _) (by simp[execOp,ho,wo hx,Op.unary,Op.intArith])
 ·rename_i k n hb;rw[hb]at hx;obtain rfl:=aw.1 he;refine h.value (kH _ _) ?_
  simp[execOp,ho,wo hx,Op.unary,Op.intBits];simp[db]
 grind [av]
end
end Go.Ab
namespace Go.Ab
section
variable {P:Program} {C:Ctx} {g:Nat->iU} {β:Id->Option Pl} {s:AS} {a:Act} {w:World} {o:Oper}
theorem CL{E:Env}{v:aA}{y:Value}(h:VS E v y){n:Int}(he:(asInt v).eval=aj n):∃k,y= .int k n:=by
 unfold asInt at he;split at he
 ·rename_i k m;obtain rfl:=aw.1 he;exact⟨k,wo h⟩
 grind [av]
theorem CC{k:kY}{i:Int}{y:Nat}(code:BoundsCode)(h:0<=i/\i<=(y:Int)):(Instr.sliceBound (.int k i) y code).run P w= .ok i.toNat w:=run_sliceBound w k i y code h.1 h.2
theorem A1(h:Inv C g β s a w){n cap:Nat}(hn:n<=cap){lo hi:Option bB}{r:Nat×Nat}(he:(bounds s n lo hi).eval=aj r)(isS:Bool){mx:Option Value}{cap':Nat}
  (hm:(mx=aF/\cap'=cap)\/∃k mv,hi.isSome=aL/\mx=aj (.int k mv)/\(r.2:Int)<=mv/\mv<=n/\cap'=mv.toNat):
  (Instr.sliceBounds isS n cap (lo.map a.eval) (hi.map a.eval) mx).run P w= .ok (r.1,r.2,cap') w/\r.1<=r.2/\r.2<=n:=by
 obtain⟨hh,h1,h2⟩:=ay.1 he;obtain⟨ll,h3,h4⟩:=ay.1 h2;obtain rfl:=aw.1 h4;have aTZ:hh<=n/\∀y,hi.map a.eval=aj y->∃k i,y= .int k i/\0<=i/\i<=(n:Int)/\hh=i.toNat:=by
  cases hi with
  |none=>
   grind [aw]
  |some x=>
   obtain⟨i,q1,q2⟩:=ay.1 h1;obtain⟨q3,q4⟩:=bP.1 q2;obtain rfl:=aw.1 q4;obtain⟨k,hk⟩:=CL (h.ev x) q1;grind
 have aOF:hi.map a.eval=aF->hh=n:=by grind [aw]
 have lo1:ll<=hh/\∀y,lo.map a.eval=aj y->∃k i,y= .int k i/\0<=i/\i<=(hh:Int)/\ll=i.toNat:=by
  cases lo with
  |none=>
   grind [aw]
  |some x=>
   obtain⟨i,q1,q2⟩:=ay.1 h3;obtain⟨q3,q4⟩:=bP.1 q2;obtain rfl:=aw.1 q4;obtain⟨k,hk⟩:=CL (h.ev x) q1;grind
 have lo0:lo.map a.eval=aF->ll=0:=by grind [aw]
 unfold Instr.sliceBounds;rcases hm with⟨rfl,rfl⟩ | ⟨k2,mv,hs,rfl,aYY,aYZ,rfl⟩
 ·cases aUN:hi.map a.eval with
  |none=>
   grind [dM,Sem.run_pure,cU,CC]
  |some z=>
   obtain⟨k',i',rfl,p1,p2,rfl⟩:=aTZ.2 z aUN;have hb:∀code,(Instr.sliceBound (.int k' i') cap' code).run P w= .ok i'.toNat w:=λcode=>CC code ⟨p1,au⟩
   grind [dM,Sem.run_pure,cU,CC]
 ·cases aUN:hi.map a.eval with
  |none=>grind
  |some z=>
   obtain⟨k',i',rfl,p1,p2,rfl⟩:=aTZ.2 z aUN;have h0:∀code,(Instr.sliceBound (.int k2 mv) cap code).run P w= .ok mv.toNat w:=λcode=>CC code ⟨au,au⟩
   have hb:∀code,(Instr.sliceBound (.int k' i') mv.toNat code).run P w= .ok i'.toNat w:=λcode=>CC code ⟨p1,au⟩
   cases anC:lo.map a.eval with
   |none=>
    grind [dM,Sem.run_pure,cU]
   |some y=>
    obtain⟨k,i,rfl,q1,q2,rfl⟩:=lo1.2 y anC;grind [dM,Sem.run_pure,cU,CC]
theorem ni{T:TypeId}{z:Nat}(h1:kI P T=aj z)(h2:zH P T=aF):∃e,P.underlying T=aj (.slice e)/\P.cellsOf e=z/\0 < z:=by grind [kI,zH]
theorem Bi{T:TypeId}{z n:Nat}(h1:kI P T=aj z)(h2:zH P T=aj n):∃e,P.underlying T=aj (.array n e)/\P.cellsOf e=z/\0 < z:=by
 unfold kI at h1;unfold zH at h2;split at h1
 ·rename_i n e hT;rw[hT]at h2;simp only[bf]at h2;subst h2;cases hc:P.cellsOf e with
  |zero=>rw[hc]at h1;cases h1
  |succ k=>
   rw[hc]at h1;simp only[bf]at h1;exact⟨e,hT,au,au⟩
 ·rename_i e hT;rw[hT]at h2;cases h2
 ·cases h1
theorem od{e:TypeId}{z:Nat}(h:P.cellsOf e=z)(hz:0 < z)(w:World):(sizeOf e).run P w= .ok z w:=by
 unfold Program.cellsOf at h;cases hi:P.info? e with
 |none=>grind
 |some i=>grind [run_sizeOf]
set_option maxHeartbeats 1000000 in
theorem aeK(h:Inv C g β s a w){T:TypeId}{x:bB}{lo hi mx:Option bB}(ho:o.op= .slice T x lo hi mx)
  (hm:mx=aF\/∃m y hv mv,mx=aj m/\hi=aj y/\(asInt (s.ev y)).eval=aj hv/\(asInt (s.ev m)).eval=aj mv/\0<=hv/\hv<=mv/\mv<=aAN (s.ev x))
  {v:aA} (he:(LS P s T (s.ev x) lo hi).eval=aj v):fp P o a w (gh C (s.put o.dst (aa9 mx v))):=by
 have hx:=h.ev x;have fin:∀z,(Instr.sliceAt T (a.eval x) (lo.map a.eval) (hi.map a.eval) (mx.map a.eval)).run P w= .ok z w->VS (s.env w g β) (aa9 mx v) z->fp P o a w (gh C (s.put o.dst (aa9 mx v))):=by intro z h1 h2;exact h.value h2 (eH (f:=Instr.sliceAt T (a.eval x) (lo.map a.eval) (hi.map a.eval) (mx.map a.eval)) (by grind [execOp]) h1)
 have no:∀ {q:Prop},aAN (s.ev x)= -1->(mx=aF->q)->q:=by grind
 have sl:∀(e:TypeId) (z:Nat) (ad:Option Addr) (len cap:Nat) (b:Nat×Nat),aAN (s.ev x)=(len:Int)->P.underlying T=aj (.slice e)->P.cellsOf e=z->0 < z->a.eval x= .slice ad len cap->len<=cap->(bounds s len lo hi).eval=aj b->
   ∃cap',(Instr.sliceAt T (a.eval x) (lo.map a.eval) (hi.map a.eval) (mx.map a.eval)).run P w= .ok (.slice (if cap'=b.1 then ad else ad.map (·.add (b.1*z))) (b.2 - b.1) (cap' - b.1)) w/\b.1<=b.2/\b.2<=len/\b.2<=cap'/\cap'<=cap/\(mx=aF->cap'=cap):=by
  intro e z ad len cap b hL hT hz xq hy aEc hb;rcases hm with rfl | ⟨m,y,hv,mv,rfl,rfl,q1,q2,q3,q4,q5⟩
  ·obtain⟨h1,h2,h3⟩:=A1 (P:=P) h aEc hb aL (.inl ⟨rfl,rfl⟩);refine⟨cap,?_,h2,h3,au,aB _,λ_=>rfl⟩;rw[hy];simp[Instr.sliceAt,Instr.slice,run_underlying hT,h1,od hz xq]
  ·obtain⟨k,hk⟩:=CL (h.ev m) q2;have ZY:(b.2:Int)<=mv:=by grind [ay,bP,aw,bounds]
   obtain⟨h1,h2,h3⟩:=A1 (P:=P) h aEc hb aL (mx:=aj (.int k mv)) (cap':=mv.toNat) (.inr ⟨k,mv,rfl,rfl,ZY,au,rfl⟩);refine⟨mv.toNat,?_,h2,h3,au,au,λh=>by cases h⟩;rw[hy,iC (a:=m),hk];simp[Instr.sliceAt,Instr.slice,run_underlying hT,od hz xq];simp only[iC]at h1;simp[h1]
 have ar:∀(e:TypeId) (z n:Nat) (ad:Addr) (b:Nat×Nat),mx=aF->P.underlying T=aj (.array n e)->P.cellsOf e=z->0 < z->a.eval x= .pointer (aj ad)->(bounds s n lo hi).eval=aj b->
   (Instr.sliceAt T (a.eval x) (lo.map a.eval) (hi.map a.eval) (mx.map a.eval)).run P w= .ok (.slice (aj (if n=b.1 then ad else ad.add (b.1*z))) (b.2 - b.1) (n - b.1)) w/\b.1<=b.2/\b.2<=n:=by
  intro e z n ad b hN hT hz xq hy hb;obtain⟨h1,h2,h3⟩:=A1 (P:=P) h (aB n) hb aS (.inl ⟨rfl,rfl⟩);refine⟨?_,h2,h3⟩;rw[hy,hN];simp[Instr.sliceAt,Instr.sureAddr,run_underlying hT,h1,od hz xq]
 have cutR:∀(t:Ty) (z:Nat) (ad ad':Option Addr) (len' cap':Nat) (vs:List Value) (l:List t.den) (b:Nat×Nat),z=t.size->xw (s.env w g β) ad vs->bo (cn (s.env w g β) t) vs l->b.1<=b.2->b.2<=l.length->
   (∀bb off,ad=aj ⟨bb,off,aF⟩->b.1 < b.2->ad'=aj ⟨bb,off+b.1*z,aF⟩)->(b.1 < b.2->ad'.isSome=aL)->len'=b.2 - b.1->len'<=cap'->VS (s.env w g β) (.d (.slice t) (cut l b.1 (b.2 - b.1))) (.slice ad' len' cap'):=by
  intro t z ad ad' len' cap' vs l b hz hr hc h1 h2 aXz AO hlen hle;subst hz hlen;have aKW:(cut l b.1 (b.2 - b.1)).length=b.2 - b.1:=HA au;refine⟨_,?_,rfl⟩;simp only[V,cn];refine⟨ad',cap',(vs.drop (b.1*t.size)).take ((b.2 - b.1)*t.size),by rw[aKW],au,by grind,?_,Px hc b.1 _⟩;grind [xw]
 unfold LS at he;split at he
 ·rename_i st vR;rw[vR]at hx;have e1:=L0 hx;obtain⟨h1,h2⟩:=aD.1 he;obtain⟨b,h3,h4⟩:=ay.1 h2;obtain rfl:=aw.1 h4;split at h1 <;> try (cases h1;done)
  rename_i hT;obtain⟨q1,q2,q3⟩:=A1 (P:=P) h (aB _) h3 aS (.inl ⟨rfl,rfl⟩);refine no (by grind [aAN]) λhN=> ?_
  subst hN;refine fin (.string (st.extract b.1 b.2)) ?_ (ajM _)
  rw[e1];simp[Instr.sliceAt,Instr.slice,run_underlying hT,q1]
 ·rename_i t l hl;rw[hl]at hx;obtain⟨ad,cap,vs,hy,aEc,AO,nL,zE⟩:=xd hx;obtain⟨h1,h2⟩:=aD.1 he;obtain⟨b,h3,h4⟩:=ay.1 h2;obtain rfl:=aw.1 h4;split at h1 <;> try (cases h1;done)
  rename_i z Z0 Z1;obtain⟨e,hT,hz,xq⟩:=ni Z0 Z1;have axW:z=t.size:=by grind
  obtain⟨cap',q1,q2,q3,q4,_,_⟩:=sl e z ad _ cap b (by rw[hl];rfl) hT hz xq hy aEc h3;refine fin _ q1 ?_
  rw[show aa9 mx (.d (.slice t) (cut l b.1 (b.2 - b.1)))= .d (.slice t) (cut l b.1 (b.2 - b.1)) by simp[aa9]];refine cutR t z ad _ _ _ vs l b axW nL zE q2 q3 ?_ ?_ rfl au
  ·intro bb off e1 iB;rw[if_neg au,e1];simp[eI]
  grind
 ·grind [lZ,aD,ay,aw,ni,aa9,aAN]
 ·rename_i id ver p c i len hl;rw[hl]at hx;obtain⟨ad,cap,hy,aEc,AO,abw,iA⟩:=uu hx;obtain⟨r,aGx,he⟩:=ay.1 he;obtain⟨h1,h2⟩:=aD.1 he;obtain⟨b,h3,h4⟩:=ay.1 h2;obtain rfl:=aw.1 h4;split at h1 <;> try (cases h1;done)
  rename_i z Z0 Z1;obtain⟨e,hT,hz,xq⟩:=ni Z0 Z1;have axW:z=r.2.1.size:=by grind
  obtain⟨cap',q1,q2,q3,q4,q6,q5⟩:=sl e z ad _ cap b (by rw[hl];rfl) hT hz xq hy aEc h3;obtain⟨p',aOK,abD⟩:∃p',aa9 mx (.cg id ver p (c+b.1*r.2.1.size) (i+b.1) (b.2 - b.1))= .cg id ver p' (c+b.1*r.2.1.size) (i+b.1) (b.2 - b.1)/\(p'=[]->p=[]/\mx=aF):=by
   cases mx with
   |none=>simp[aa9]
   |some m=>simp[aa9]
  refine fin _ q1 ?_
  rw[aOK];refine⟨_,?_,rfl⟩;simp only[V];refine⟨_,_,rfl,au,?_,abw,λhc=> ?_⟩
  ·grind
  ·have iA:=iA hc;cases hp:β id with
   |none=>
    have hp':(s.env w g β).β id=aF:=hp;grind
   |some pl=>
    have hp':(s.env w g β).β id=aj pl:=hp;rw[hp']at iA ⊢;simp only at iA ⊢;refine⟨λhh=> ?_,λaQo aOF=> ?_⟩
    ·by_cases aSF:cap'=b.1
     ·rw[if_pos aSF];have aWp:b.1=0:=au;rw[aWp,Nat.zero_mul,de];grind
     ·rw[if_neg aSF,iA.1 au,<-axW];simp[eI]
    ·obtain⟨e1,e2⟩:=abD aQo;have:=iA.2 e1 au;grind
 ·rename_i id ver p n hl;rw[hl]at hx;obtain⟨ad,hy,abw,iA⟩:=wJ hx;obtain⟨r,aGx,he⟩:=ay.1 he;obtain⟨h1,h2⟩:=aD.1 he;obtain⟨h5,h6⟩:=bP.1 h2;obtain⟨b,h3,h4⟩:=ay.1 h6;obtain rfl:=aw.1 h4;split at h1 <;> try (cases h1;done)
  rename_i z m Z0 Z1;obtain⟨e,hT,hz,xq⟩:=Bi Z0 Z1;have axW:z=r.2.1.size:=by grind
  rw[Z1,eB]at h3;refine no (by rw[hl];rfl) λhN=> ?_
  obtain⟨q1,q2,q3⟩:=ar e z m ad b hN hT hz xq hy h3;subst hN;obtain⟨fr,c0,di,_⟩:=Wm rfl h.bu aGx;obtain⟨pl,hp,atF⟩:=iA ⟨fr,c0,di⟩;refine fin _ q1 ⟨_,?_,rfl⟩;simp only[aa9,V];refine⟨_,_,rfl,au,λ_=>rfl,abw,λ_=> ?_⟩;rw[hp];simp only;refine⟨λhh=> ?_,λaQo=>by simp at aQo⟩;rw[atF];by_cases aSF:m=b.1
  ·grind
  grind [eI]
 ·rename_i n t l hl;rw[hl]at hx;obtain⟨bb,off,vs,hy,nL,hR⟩:=mW hx;obtain⟨h1,h2⟩:=aD.1 he;obtain⟨b,h3,h4⟩:=ay.1 h2;obtain rfl:=aw.1 h4;split at h1 <;> try (cases h1;done)
  rename_i z m Z0 Z1;obtain⟨e,hT,hz,xq⟩:=Bi Z0 Z1;simp only[ax,gE]at h1;obtain⟨axW,rfl⟩:=h1;refine no (by rw[hl];rfl) λhN=> ?_
  obtain⟨q1,q2,q3⟩:=ar e z m _ b hN hT hz xq hy h3;subst hN;simp only[cn]at hR;obtain⟨hlen,zE⟩:=hR;refine fin _ q1 (cutR t z (aj ⟨bb,off,aF⟩) _ _ _ vs l b axW nL zE q2 au ?_ (λ_=>rfl) rfl au);intro bb' off' e1 iB;simp only[bf,Addr.mk.injEq,gR]at e1;obtain⟨rfl,rfl⟩:=e1;rw[if_neg au,eI]
 grind [av]
end
end Go.Ab
namespace Go.Ab
section
variable {P:Program} {C:Ctx} {g:Nat->iU} {β:Id->Option Pl} {s:AS} {a:Act} {w:World} {o:Oper}
theorem aOX{E:Env}{z n:Nat}{y:Value}(h:VS E (.d (.js z) n) y):
  ∃cap,(∃ad,y= .slice ad n cap)/\(0 < n->∃ad,y= .slice (aj ad) n cap/\∃b off,ad=⟨b,off,aF⟩/\asM E b (off+n*z)):=by
 obtain⟨cs,hv,ho⟩:=h;simp only[V,cn]at hv;obtain⟨ad,cap,e,hl,hj⟩:=hv;have ho':cs=[y]:=ho;rw[e]at ho';have ho':y= .slice ad (n:Nat) cap:=by simpa using ho'.symm
 exact⟨cap,⟨ad,ho'⟩,λhn=>let⟨b,off,h1,h2⟩:=hj hn;⟨_,by rw[ho',h1],b,off,rfl,h2⟩⟩
theorem abG(h:Inv C g β s a w){T:TypeId}{x y:bB}(ho:o.op= .indexAddr T x y){i:Int}(hi:(asInt (s.ev y)).eval=aj i){v:aA}(he:(uQ P s T (s.ev x) i).eval=aj v):fp P o a w (gh C (s.put o.dst v)):=by
 have hx:=h.ev x;obtain⟨k,hy⟩:=CL (h.ev y) hi;have fin:∀z,(Instr.indexAt T (a.eval x) (a.eval y)).run P w= .ok z w->VS (s.env w g β) v z->fp P o a w (gh C (s.put o.dst v)):=by intro z h1 h2;exact h.value h2 (eH (f:=Instr.indexAt T (a.eval x) (a.eval y)) (by simp only[execOp,ho]) h1)
 have sl:∀(e:TypeId) (z:Nat) (ad:Addr) (len cap:Nat),P.underlying T=aj (.slice e)->P.cellsOf e=z->0 < z->a.eval x= .slice (aj ad) len cap->0<=i/\i < (len:Int)->
   (Instr.indexAt T (a.eval x) (a.eval y)).run P w= .ok (.pointer (aj (ad.add (i.toNat*z)))) w:=by
  intro e z ad len cap hT hz xq hv hb;rw[hv,hy];simp[Instr.indexAt,asIntOf,run_underlying hT,hb,od hz xq]
 have ar:∀(e:TypeId) (z n:Nat) (ad:Addr),P.underlying T=aj (.array n e)->P.cellsOf e=z->0 < z->a.eval x= .pointer (aj ad)->0<=i/\i < (n:Int)->
   (Instr.indexAt T (a.eval x) (a.eval y)).run P w= .ok (.pointer (aj (ad.add (i.toNat*z)))) w:=by
  intro e z n ad hT hz xq hv hb;rw[hv,hy];simp[Instr.indexAt,Instr.sureAddr,asIntOf,run_underlying hT,hb,od hz xq]
 have elt:∀(t:Ty) (z:Nat) (bb off:Nat) (vs:List Value) (l:List t.den),z=t.size->xw (s.env w g β) (aj ⟨bb,off,aF⟩) vs->bo (cn (s.env w g β) t) vs l->0<=i/\i < (l.length:Int)->
   VS (s.env w g β) (.dx t (nth t l i.toNat)) (.pointer (aj ⟨bb,off+i.toNat*z,aF⟩)):=by
  intro t z bb off vs l hz hr hc hb;subst hz;have iB:i.toNat < l.length:=au;rw[alk iB];obtain⟨hp,_⟩:=Ua hc iB;refine⟨_,?_,rfl⟩;simp only[V];refine⟨_,_,_,rfl,λj v hj=> ?_,hp⟩;rw[dA]at hj;split at hj
  ·rw[kE]at hj;obtain⟨b',o',e,hh⟩:=hr _ v hj;simp only[bf,Addr.mk.injEq,gR]at e;obtain⟨rfl,rfl⟩:=e;exact⟨_,_,rfl,by rw[fk];exact hh⟩
  ·cases hj
 unfold uQ at he;split at he
 ·rename_i t l hl;rw[hl]at hx;obtain⟨ad,cap,vs,hv,aEc,AO,nL,zE⟩:=xd hx;obtain⟨h1,h2⟩:=aD.1 he;obtain⟨h3,h4⟩:=bP.1 h2;obtain rfl:=aw.1 h4;simp only[bO]at h3;split at h1 <;> try (cases h1;done)
  rename_i z Z0 Z1;obtain⟨e,hT,hz,xq⟩:=ni Z0 Z1;have axW:z=t.size:=by simpa using h1
  have hlen:=bo.length (λc x hx=>cn.size hx) zE;have iB:i.toNat < l.length:=au;have h0:0 < vs.length:=by rw[hlen];exact Nat.mul_pos au au
  obtain⟨bb,off,e1,_⟩:=nL 0 vs[0] (by simp[h0]);subst e1;have:=sl e z _ _ cap hT hz xq hv h3;rw[eI]at this;exact fin _ this (elt t z bb off vs l axW nL zE h3)
 ·rename_i n t l hl;rw[hl]at hx;obtain⟨bb,off,vs,hv,nL,hR⟩:=mW hx;obtain⟨h1,h2⟩:=aD.1 he;obtain⟨h3,h4⟩:=bP.1 h2;obtain rfl:=aw.1 h4;simp only[bO]at h3;split at h1 <;> try (cases h1;done)
  rename_i z m Z0 Z1;obtain⟨e,hT,hz,xq⟩:=Bi Z0 Z1;simp only[ax,gE]at h1;obtain⟨axW,rfl⟩:=h1;simp only[cn]at hR;have:=ar e z m _ hT hz xq hv h3;rw[eI]at this;exact fin _ this (elt t z bb off vs l axW nL hR.2 (by rw[hR.1];exact h3))
 ·rename_i id ver p c j len hl;rw[hl]at hx;obtain⟨ad,cap,hv,aEc,AO,abw,iA⟩:=uu hx;obtain⟨r,aGx,he⟩:=ay.1 he;obtain⟨h1,h2⟩:=aD.1 he;obtain⟨h3,h4⟩:=bP.1 h2;obtain rfl:=aw.1 h4;simp only[bO]at h3;split at h1 <;> try (cases h1;done)
  rename_i z Z0 Z1;obtain⟨e,hT,hz,xq⟩:=ni Z0 Z1;have axW:z=r.2.1.size:=by simpa using h1
  have hs:=AO au;obtain⟨ad',rfl⟩:=Option.isSome_iff_exists.1 hs;refine fin _ (sl e z ad' len cap hT hz xq hv h3) ⟨_,?_,rfl⟩;simp only[V];refine⟨_,rfl,abw,λhc=> ?_⟩;have iA:=iA hc;cases hp:β id with
  |none=>
   have hp':(s.env w g β).β id=aF:=hp;rw[hp']at iA;exact absurd iA.1 (by simp)
  |some pl=>
   have hp':(s.env w g β).β id=aj pl:=hp;rw[hp']at iA;have e1:=iA.1 (.inl au);simp only[bf]at e1;exact⟨pl,hp,by rw[e1,eI,axW]⟩
 ·rename_i z n hl;rw[hl]at hx;obtain⟨h1,h2⟩:=aD.1 he;obtain⟨h3,h4⟩:=bP.1 h2;obtain rfl:=aw.1 h4;simp only[bO]at h3;split at h1 <;> try (cases h1;done)
  rename_i z' Z0 Z1;obtain⟨e,hT,hz,xq⟩:=ni Z0 Z1;have axW:z'=z:=by simpa using h1
  obtain⟨cap,hv,hj⟩:=aOX hx;obtain⟨ad,hv,bb,off,e1,hj⟩:=hj (Int.natCast_pos.1 (Int.lt_of_le_of_lt h3.1 h3.2));subst e1;have:=sl e z' _ _ cap hT hz xq hv h3;rw[eI]at this;refine fin _ this ⟨_,?_,rfl⟩;simp only[V,cn];refine⟨_,_,rfl,?_⟩;obtain⟨g1,cur,e2,g2,g3⟩:=hj;refine⟨g1,cur,e2,g2,?_⟩;rw[axW];have h5:i < ((n:Nat):Int):=h3.2;have:(i.toNat+1)*z<=(n:Nat)*z:=Nat.mul_le_mul_right _ (by have:=h3.1;omega);rw[hP]at this;omega
 ·rename_i id ver p n hl;rw[hl]at hx;obtain⟨ad,hv,abw,iA⟩:=wJ hx;obtain⟨h1,h2⟩:=aD.1 he;obtain⟨h3,h4⟩:=bP.1 h2;obtain rfl:=aw.1 h4;simp only[bO]at h3;split at h1 <;> try (cases h1;done)
  rename_i z m Z0 Z1;obtain⟨e,hT,hz,xq⟩:=Bi Z0 Z1;rw[Z1,eB]at h3;refine fin _ (ar e z m ad hT hz xq hv h3) ⟨_,?_,rfl⟩;simp only[V];refine⟨_,rfl,abw,λhc=> ?_⟩;obtain⟨pl,hp,atF⟩:=iA hc;exact⟨pl,hp,by rw[atF,eI,Z0,eB]⟩
 ·simp only[av]at he
theorem Aj{T:TypeId}{f off:Nat}{ft:TypeId}(h:fieldInfo P T f=aj (off,ft)):∃fs fd,P.underlying T=aj (.struct fs)/\fs[f]? =aj fd/\fd.offset=off/\fd.type=ft:=by grind [fieldInfo]
theorem wA{E:Env}:∀(x:aA) (f off:Nat) (v:aA) (cs:List Value),V E x cs->partOf x f=aj (off,v)->V E v ((cs.drop off).take v.size)/\off+v.size<=cs.length:=by
 intro x f
 induction f generalizing x with
 |zero=>
  intro off v cs hx h;cases x with
  |d t y=>
   cases t <;> simp[partOf]at h;obtain⟨rfl,rfl⟩:=h;simp[V]at hx ⊢;obtain⟨ca,cb,rfl,ha,hb⟩:=hx;have:=ha.size;grind [aA.size]
  |pr b c=>
   obtain⟨rfl,rfl⟩:=h;obtain⟨ca,cb,rfl,ha,hb⟩:=hx;have:=ha.size;grind
  |_=>simp[partOf]at h
 |succ f ih=>
  intro off v cs hx h;have second:∀(ca cb:List Value) (n:Nat) (b:aA),cs=ca++cb->ca.length=n->V E b cb->(match partOf b f with | some (o,v)=>aj (n+o,v) | none=>aF)=aj (off,v)->V E v ((cs.drop off).take v.size)/\off+v.size<=cs.length:=by
   intro ca cb n b e hl hb hh;cases hp:partOf b f with
   |none=>grind
   |some r=>
    grind [nb,fv,Nat.add_sub_cancel_left]
  cases x with
  |d t y=>
   cases t with
   |pair ta tb=>
    obtain⟨ca,cb,e,ha,hb⟩:=hx;exact second ca cb ta.size (.d tb y.2) e ha.size (by grind [V]) h
   |_=>simp[partOf]at h
  |pr b c=>
   obtain⟨ca,cb,e,ha,hb⟩:=hx;exact second ca cb b.size c e ha.size hb h
  |_=>simp[partOf,reduceCtorEq]at h
theorem abk(h:Inv C g β s a w){T:TypeId}{x:bB}{f:Nat}(ho:o.op= .fieldAddr T x f){v:aA}(he:(HJ P T (s.ev x) f).eval=aj v):fp P o a w (gh C (s.put o.dst v)):=by
 have hx:=h.ev x;unfold HJ at he;split at he
 ·rename_i off ft hf;obtain⟨fs,fd,hT,aSN,rfl,rfl⟩:=Aj hf;obtain⟨h1,h2⟩:=aD.1 he;have hz:P.cellsOf fd.type≠0:=by simpa using h1
  have run:∀bb n,a.eval x= .pointer (aj ⟨bb,n,aF⟩)->(Instr.fieldAt T (a.eval x) f).run P w= .ok (.pointer (aj ⟨bb,n+fd.offset,aF⟩)) w:=by intro bb n hy;rw[hy];simp[Instr.fieldAt,run_underlying hT,aSN,Instr.sureAddr,fieldPlace,od (P:=P) (e:=fd.type) rfl au,hz,eI]
  have runS:∀ad,a.eval x= .pointer (aj ad)->(Instr.fieldAt T (a.eval x) f).run P w= .ok (.pointer (aj (ad.add fd.offset))) w:=by intro ad hy;rw[hy];simp[Instr.fieldAt,run_underlying hT,aSN,Instr.sureAddr,fieldPlace,od (P:=P) (e:=fd.type) rfl au,hz]
  have fin:∀z,(Instr.fieldAt T (a.eval x) f).run P w= .ok z w->VS (s.env w g β) v z->fp P o a w (gh C (s.put o.dst v)):=by intro z h1 h2;exact h.value h2 (eH (f:=Instr.fieldAt T (a.eval x) f) (by simp only[execOp,ho]) h1)
  split at h2
  ·rename_i id ver p n hl;rw[hl]at hx;obtain rfl:=aw.1 h2;obtain⟨ad,hy,abw,iA⟩:=wJ hx;refine fin _ (runS ad hy) ⟨_,?_,rfl⟩;simp only[V];refine⟨_,rfl,abw,λhc=> ?_⟩;obtain⟨pl,hp,atF⟩:=iA hc;exact⟨pl,hp,by rw[atF,eI]⟩
  ·rename_i n u hl;rw[hl]at hx;obtain⟨h3,h4⟩:=aD.1 h2;obtain rfl:=aw.1 h4;obtain⟨bb,off,hy,g1,cur,e2,g2,g3⟩:=aGR hx;refine fin _ (runS _ hy) ⟨_,?_,rfl⟩;simp only[V,cn];refine⟨_,_,by rw[eI],g1,cur,e2,g2,?_⟩;have:=dH h3;omega
  ·rename_i t y hl;rw[hl]at hx;obtain⟨bb,off,vs,hy,nL,hR⟩:=mW hx;split at h2
   ·rename_i o' t' y' hp;obtain⟨h3,h4⟩:=aD.1 h2;obtain rfl:=aw.1 h4;have h3:fd.offset=o':=by simpa using h3
    obtain⟨hV,hle⟩:=wA (.d t y) f o' (.d t' y') vs (by simpa only[V]using hR) hp;refine fin _ (run bb off hy) ⟨_,?_,rfl⟩;simp only[V]at hV ⊢;refine⟨_,_,_,rfl,λj u hj=> ?_,hV⟩;rw[dA]at hj;split at hj
    ·rw[kE]at hj;obtain⟨b',o'',e,hh⟩:=nL _ u hj;simp only[bf,Addr.mk.injEq,gR]at e;obtain⟨rfl,rfl⟩:=e;exact⟨_,_,rfl,by rw[h3,fk];exact hh⟩
    ·cases hj
   ·simp only[av]at h2
  ·rename_i t q hl;obtain⟨y,e,h5⟩:=jm.1 h2;subst e;rw[hl]at hx;have hx:=Sk hx;obtain⟨bb,off,vs,hy,nL,hR⟩:=mW hx;split at h5
   ·rename_i o' t' y' hp;obtain⟨h3,h4⟩:=aD.1 h5;obtain rfl:=aw.1 h4;have h3:fd.offset=o':=by simpa using h3
    obtain⟨hV,hle⟩:=wA (.d t y) f o' (.d t' y') vs (by simpa only[V]using hR) hp;refine fin _ (run bb off hy) ⟨_,?_,rfl⟩;simp only[V]at hV ⊢;refine⟨_,_,_,rfl,λj u hj=> ?_,hV⟩;rw[dA]at hj;split at hj
    ·rw[kE]at hj;obtain⟨b',o'',e,hh⟩:=nL _ u hj;simp only[bf,Addr.mk.injEq,gR]at e;obtain⟨rfl,rfl⟩:=e;exact⟨_,_,rfl,by rw[h3,fk];exact hh⟩
    ·cases hj
   ·simp only[av]at h5
  ·rename_i t q hl;obtain⟨y,e,h5⟩:=jm.1 h2;subst e;rw[hl]at hx;have hx:=SB hx;obtain⟨bb,off,vs,hy,nL,hR⟩:=mW hx;split at h5
   ·rename_i o' t' y' hp;obtain⟨h3,h4⟩:=aD.1 h5;obtain rfl:=aw.1 h4;have h3:fd.offset=o':=by simpa using h3
    obtain⟨hV,hle⟩:=wA (.d t y.2) f o' (.d t' y') vs (by simpa only[V]using hR) hp;refine fin _ (run bb off hy) ⟨_,?_,rfl⟩;simp only[V]at hV ⊢;refine⟨_,_,_,rfl,λj u hj=> ?_,hV⟩;rw[dA]at hj;split at hj
    ·rw[kE]at hj;obtain⟨b',o'',e,hh⟩:=nL _ u hj;simp only[bf,Addr.mk.injEq,gR]at e;obtain⟨rfl,rfl⟩:=e;exact⟨_,_,rfl,by rw[h3,fk];exact hh⟩
    ·cases hj
   ·simp only[av]at h5
  ·simp only[av]at h2
 ·simp only[av]at he
theorem afM{x:aA}{f:Nat}{r:Nat×aA}(h:partOf x f=aj r):x.agg=aL/\x.eg=aL:=by
 cases x with
 |d t y=>cases t <;> cases f <;> simp[partOf]at h <;> exact⟨rfl,rfl⟩
 |pr b c=>exact⟨rfl,rfl⟩
 |_=>cases f <;> simp[partOf]at h
theorem J6{T:TypeId}{v:aA}(h:fits P T v=aL):P6 P T v.agg=aL/\P.cellsOf T=v.size/\v.eg=aL:=by grind [fits,P6]
theorem atv(h:Inv C g β s a w){T:TypeId}{x:bB}{f:Nat}(ho:o.op= .field T x f){v:aA}(he:(akB P T (s.ev x) f).eval=aj v):fp P o a w (gh C (s.put o.dst v)):=by
 have hx:=h.ev x;unfold akB at he;split at he
 ·rename_i off ft o' v' hf hp;obtain⟨fs,fd,hT,aSN,rfl,rfl⟩:=Aj hf;obtain⟨h1,h2⟩:=aD.1 he;obtain rfl:=aw.1 h2;simp at h1;obtain⟨rfl,J8⟩:=h1;obtain⟨Oe,akK⟩:=afM hp;obtain⟨cs,hV,hO⟩:=hx.eg akK;rw[Oe]at hO;have hy:a.eval x= .agg cs.toArray:=hO;obtain⟨hVp,hle⟩:=wA _ _ _ _ cs hV hp;obtain⟨q1,q2,q3⟩:=J6 J8;obtain⟨y,hr,hOy⟩:=z0 (w:=w) q1 q2 (λhh=>aA.arX hh) hle;refine h.value (VS.of hVp hOy) (eH (f:=Instr.field T (a.eval x) f) (by grind [execOp]) ?_);simp_all [Instr.field,run_underlying,asAgg]
 grind [av]
theorem atY(h:Inv C g β s a w){T:TypeId}{x y:bB}(ho:o.op= .index T x y){i:Int}(hi:(asInt (s.ev y)).eval=aj i){v:aA}(he:(akR P T (s.ev x) i).eval=aj v):fp P o a w (gh C (s.put o.dst v)):=by
 have hx:=h.ev x;obtain⟨k,hy⟩:=CL (h.ev y) hi;have fin:∀z,(Instr.index T (a.eval x) (a.eval y)).run P w= .ok z w->VS (s.env w g β) v z->fp P o a w (gh C (s.put o.dst v)):=by intro z h1 h2;exact h.value h2 (eH (f:=Instr.index T (a.eval x) (a.eval y)) (by grind [execOp]) h1)
 unfold akR at he;split at he
 ·rename_i n t l m e hl hT;rw[hl]at hx;obtain⟨h1,h2⟩:=aD.1 he;obtain⟨h3,h4⟩:=bP.1 h2;obtain rfl:=aw.1 h4;simp at h1 h3;obtain⟨rfl,J8⟩:=h1;obtain⟨q1,q2,q3⟩:=J6 J8;obtain⟨cs,hV,hO⟩:=hx.eg rfl;have aVk:=hO;obtain⟨hlen,zE⟩:=hV;have iB:i.toNat < l.length:=au;obtain⟨hp,hle⟩:=Ua zE iB;have q2':P.cellsOf e=t.size:=q2;have q1':=q1;obtain⟨y',hr,hOy⟩:=z0 (w:=w) q1' q2' z6 hle;obtain⟨j,hj,_⟩:=Bz q1';rw[<-alk iB]at hp;refine fin y' ?_ (VS.of (by grind [V]) hOy)
  rw[aVk,hy];have xr:=run_sizeOf hj w;rw[<-oB hj,q2']at xr;simp[Instr.index,asIntOf,run_underlying hT,h3,xr,hr]
 ·rename_i st hl hT;rw[hl]at hx;obtain⟨h3,h4⟩:=bP.1 he;obtain rfl:=aw.1 h4;simp at h3;have e1:=L0 hx;have iB:i.toNat < st.data.toList.length:=by
   have:st.size=st.data.toList.length:=by simp
   omega
  have aUK:st[i.toNat]? =aj (st.data.toList[i.toNat]):=by have hlt':=au;rw[getElem?_pos st i.toNat hlt'];rfl
  refine fin (.int .u8 ((st.data.toList.getD i.toNat 0).toNat:Int)) ?_ (kH _ _)
  rw[e1,hy];simp[Instr.index,asIntOf,run_underlying hT,h3.1,aUK,cm iB]
 grind [av]
theorem aPv{E:Env}:∀(c:aA) (vs:List Value) (i:Nat) (v:aA),VC E c vs->c.list[i]? =aj v->∃y,vs[i]? =aj y/\VS E v y:=by
 intro c
 induction c with
 |cons x y _ ih=>
  grind [VC,aA.list,List.getElem?_cons_zero,VS.of]
 |_=>intro vs i v hc hi;simp[aA.list]at hi
theorem akt(h:Inv C g β s a w){x:bB}{i:Nat}(ho:o.op= .extract x i){v:aA}(he:(Out.opt ((s.ev x).list[i]?)).eval=aj v):fp P o a w (gh C (s.put o.dst v)):=by
 have hx:=h.ev x;have he:=gS.1 he;cases hc:s.ev x with
 |cons p q=>
  rw[hc]at hx he;obtain⟨vs,hy,hVC⟩:=hx;obtain⟨y,hv,hVS⟩:=aPv _ vs i v hVC he;refine h.value hVS (eH (f:=Instr.extract (a.eval x) i) (by grind [execOp]) ?_);simp_all [Instr.extract]
 |_=>rw[hc]at he;simp[aA.list]at he
theorem axa(h:Inv C g β s a w):∀(l:List bB),CN (v9 s l)=aL->VC (s.env w g β) (v9 s l) (l.map a.eval)
 |[],_=>by simp[v9,VC]
 |x::xs,hc=>by simp[v9,CN]at hc;obtain⟨cs,hV,hO⟩:=(h.ev x).eg hc.1;exact⟨_,_,cs,rfl,hV,hO,axa h xs hc.2⟩
theorem af9(h:Inv C g β s a w){f:FuncId}{first caps:Array bB}(ho:o.op= .makeFunc (.func f) first caps)(h1:first.isEmpty=aL)(h2:CN (v9 s caps.toList)=aL):
  fp P o a w (gh C (s.put o.dst (.fn f (v9 s caps.toList)))):=by
 have hf:first= #[]:=by simpa using h1
 refine h.value (x:= .func (.func f) #[] (caps.toList.map a.eval).toArray) ⟨_,?_,rfl⟩ (eH (f:=Instr.makeFunc (.func f) (first.map a.eval) (caps.map a.eval)) (by simp only[execOp,ho]) ?_)
 ·simp only[V];exact⟨_,rfl,axa h _ h2⟩
 ·subst hf;have:caps.map a.eval=(caps.toList.map a.eval).toArray:=by apply uz;simp
  simp[Instr.makeFunc,this]
theorem awJ(h:Inv C g β s a w){T:TypeId}{x:bB}(ho:o.op= .sliceToArrayPointer T x){s':AS}(he:(Q6 P s o.dst T (s.ev x)).eval=aj s'):fp P o a w (gh C s'):=by
 have hx:=h.ev x;unfold Q6 at he;split at he
 ·rename_i n e hT;split at he
  ·rename_i t ht;obtain⟨h1,h2⟩:=aD.1 he;obtain⟨l,h3,h4⟩:=ay.1 h2;obtain⟨h5,h6⟩:=bP.1 h4;obtain rfl:=aw.1 h6;simp at h1 h5;obtain⟨g1,i1,e1,t1,cs,hR,hO⟩:=DS h hx h3;obtain⟨ad,cap,vs,rfl,aEc,AO,nL,zE⟩:=hR;have hO': [Value.slice ad (List.length l) cap]=[a.eval x]:=hO;have hy:a.eval x= .slice ad (List.length l) cap:=by grind
   have hlen:=bo.length (λc x hx=>cn.size hx) zE;have h0:0 < vs.length:=by rw[hlen];exact Nat.mul_pos au au
   obtain⟨bb,off,e2,_⟩:=nL 0 vs[0] (by simp);subst e2;refine .inl ⟨.pointer (aj ⟨bb,off,aF⟩),w,?_,g1,β,i1.put o.dst ⟨_,?_,rfl⟩⟩
   ·refine eH (f:=Instr.arrayAt T (a.eval x)) (by grind [execOp]) ?_
    rw[hy];have:¬List.length l < n:=au;simp[Instr.arrayAt,run_underlying hT,this]
   ·refine⟨bb,off,vs.take (n*t.size),rfl,λj u hj=> ?_,?_⟩
    ·rw[dA]at hj;split at hj
     ·exact nL j u hj
     grind
    ·exact⟨by grind,bo.take (λ_ _ hx=>hx.size) n zE⟩
  grind [av]
 grind [av]
end
end Go.Ab
namespace Go.Ab
theorem abX{α:Type}{f:α->α->Bool}(hf:∀x y,f x y=aL->x=y):∀ {xs ys:List α},mU f xs ys=aL->xs=ys
 |[],[],_=>rfl
 |x::xs,y::ys,h=>by simp[mU]at h;rw[hf _ _ h.1,abX hf h.2]
 |[],_::_,h=>by grind [mU]
 |_::_,[],h=>by grind [mU]
theorem beq_eq:∀(t:Ty) (x y:t.den),t.comp=aL->t.beq x y=aL->x=y
 | .int _,x,y,_,h=>by grind [Ty.beq]
 | .bool,x,y,_,h=>by grind [Ty.beq]
 | .str,x,y,_,h=>by grind [Ty.beq,Go.ByteArray.toList_eq,ByteArray.ext,Array.toList_inj]
 | .slice _,_,_,h,_=>by grind [Ty.comp]
 | .unit,_,_,_,_=>rfl
 | .pair a b,x,y,hc,h=>by simp[Ty.comp]at hc;simp[Ty.beq]at h;exact Prod.ext (beq_eq a _ _ hc.1 h.1) (beq_eq b _ _ hc.2 h.2)
 | .arr _ t,x,y,hc,h=>abX (λx y=>beq_eq t x y hc) h
 | .gF t,x,y,_,h=> @of_decide_eq_true _ ((Ty.gF t).ato x y) h
theorem cn.akS{E:Env}{t:Ty}{cs:List Value}{x:(Ty.gF t).den}(h:cn E (.gF t) cs x):cs=[.pointer ((x:Option (Nat×t.den)).map λp=>⟨p.1,0,aF⟩)]:=by
 simp[cn]at h;cases hx:(x:Option (Nat×t.den)) with
 |none=>grind
 |some u=>
  grind
def Plain(c:Value):Prop:=∀n,Instr.sameBits n c c=aL
theorem cn.plain{E:Env}:∀ {t:Ty} {cs:List Value} {x:t.den},t.comp=aL->cn E t cs x->∀c∈cs,Plain c
 | .int _,_,_,_,h,c,hc,n=>by grind [cn,Instr.sameBits]
 | .bool,_,_,_,h,c,hc,n=>by grind [cn,Instr.sameBits]
 | .str,_,_,_,h,c,hc,n=>by grind [cn,Go.MapKept.bytes_beq,Instr.sameBits]
 | .slice _,_,_,hc,_,_,_,_=>by grind [Ty.comp]
 | .unit,_,_,_,h,c,hc,_=>by grind [cn]
 | .pair a b,_,_,hp,h,c,hc,n=>by
  simp[Ty.comp]at hp;obtain⟨ca,cb,rfl,ha,hb⟩:=h;rcases bg.1 hc with hc | hc
  ·exact cn.plain hp.1 ha c hc n
  ·exact cn.plain hp.2 hb c hc n
 | .arr _ t,_,_,hp,h,c,hc,n=>by exact bo.all (p:=Plain) (λc x hx v hv=>cn.plain (t:=t) hp hx v hv) h.2 c hc n
 | .gF t,_,x,_,h,c,hc,n=>by rw[h.akS]at hc;grind [Instr.sameBits]
theorem cn.aKT{E:Env}:∀ {t:Ty} {cs cs':List Value} {x:t.den},t.comp=aL->cn E t cs x->cn E t cs' x->cs=cs'
 | .int _,_,_,_,_,h,h'=>by grind [cn]
 | .bool,_,_,_,_,h,h'=>by grind [cn]
 | .str,_,_,_,_,h,h'=>by grind [cn]
 | .slice _,_,_,_,hc,_,_=>by grind [Ty.comp]
 | .unit,_,_,_,_,h,h'=>by grind [cn]
 | .pair a b,_,_,_,hp,h,h'=>by simp[Ty.comp]at hp;obtain⟨ca,cb,rfl,ha,hb⟩:=h;obtain⟨ca',cb',rfl,ha',hb'⟩:=h';rw[cn.aKT hp.1 ha ha',cn.aKT hp.2 hb hb']
 | .arr _ t,cs,cs',x,hp,h,h'=>by
  simp[cn]at h h';have key:∀(l:List t.den) (cs cs':List Value),bo (cn E t) cs l->bo (cn E t) cs' l->cs=cs':=by
   intro l
   induction l with
   |nil=>simp[bo]
   |cons x l ih=>
    intro cs cs' h h';obtain⟨c,r,rfl,hx,hr⟩:=h;obtain⟨c',r',rfl,hx',hr'⟩:=h';rw[cn.aKT (t:=t) hp hx hx',ih _ _ hr hr']
  grind
 | .gF t,_,_,_,_,h,h'=>by rw[h.akS,h'.akS]
theorem E8.aKT{E:Env}{t:Ty}{v v':Value}{x:t.den}(hc:t.comp=aL)(h:E8 E t v x)(h':E8 E t v' x):v=v':=by obtain⟨cs,h1,h2⟩:=h;obtain⟨cs',h1',h2'⟩:=h';have e:=cn.aKT hc h1 h1';unfold fW at h2 h2';grind
theorem E8.same{E:Env}{t:Ty}{v:Value}{x:t.den}(hc:t.comp=aL)(h:E8 E t v x):Instr.sameBits 10000 v v=aL:=by
 obtain⟨cs,h1,h2⟩:=h;have hp:=cn.plain hc h1;unfold fW at h2;cases ha:t.agg with
 |true=>
  rw[ha]at h2;have h2:v= .agg cs.toArray:=h2;subst h2;simp only[Instr.sameBits,beq_self_eq_true,bF,bQ];intro p hp';obtain⟨a,b⟩:=p;have:∀(l:List Value),(a,b)∈l.zip l->a∈l/\a=b:=by
   intro l
   induction l with
   |nil=>intro h;simp at h
   |cons y l ih=>
    intro h;simp only[List.zip_cons_cons,bI,jU]at h;rcases h with⟨rfl,rfl⟩ | h
    ·exact⟨aC,rfl⟩
    ·exact⟨az _ (ih h).1,(ih h).2⟩
  obtain⟨hm,rfl⟩:=this _ hp';exact hp a (by simpa using hm) _
 |false=>
  rw[ha]at h2;have h2:cs=[v]:=h2;subst h2;exact hp v (by simp) _
theorem aC4{P:Program}{w:World}{E:Env}{t:Ty}{v:Value}{x:t.den}(hc:t.comp=aL)(h:E8 E t v x):(Instr.keyThatStays v v).run P w= .ok v w:=by unfold Instr.keyThatStays;rw[if_pos (h.same hc)];rfl
section
variable {P:Program} {w:World} {E:Env}
theorem CW:∀(n:Nat) (T:TypeId) (t:Ty),vl P n T t=aL->t.comp=aL
 | 0,T,t,h=>by simp[vl]at h
 |n+1,T,t,h=>by
  simp[vl]at h;split at h
  ·rfl
  ·rfl
  ·rfl
  ·rfl
  ·rename_i m e m' t' hT;simp at h;exact CW n e t' h.2
  ·have key:∀(fl:List Field) (t:Ty) (off:Nat),PQ P (vl P n) fl t off=aL->t.comp=aL:=by
    intro fl
    induction fl with
    |nil=>grind [PQ,Ty.comp]
    |cons f fl ih=>
     intro t off hc;cases t <;> first | (simp[PQ]at hc;done) | skip
     rename_i ta tb;simp[PQ]at hc;simp[Ty.comp];exact⟨CW n _ _ hc.1.2,ih tb _ hc.2⟩
   grind
  grind
theorem qw(em:Bool):∀(n:Nat) (T:TypeId) (t:Ty),vl P n T t=aL->∀(d:Nat),n<=d->∀(v:Value) (x:t.den),E8 E t v x->(Instr.checkKey em d T v).run P w= .ok () w
 | 0,T,t,h,_,_,_,_,_=>by simp[vl]at h
 |n+1,T,t,h,0,hd,_,_,_=>au
 |n+1,T,t,h,d+1,hd,v,x,⟨cs,hx,hv⟩=>by
  simp only[vl]at h;split at h
  ·simp_all [Instr.checkKey,run_underlying]
  ·simp_all [Instr.checkKey,run_underlying]
  ·simp_all [Instr.checkKey,run_underlying]
  ·simp_all [Instr.checkKey,run_underlying]
  ·rename_i m e m' t' hT;simp only[ax,gE]at h;obtain⟨⟨⟨⟨rfl,aRS⟩,xr⟩,Oe⟩,zE⟩:=h;simp only[cn]at hx;obtain⟨aUV,aXE⟩:=hx;have e1:v= .agg cs.toArray:=hv;subst e1;obtain⟨i,hi,akI⟩:=Bz Oe;have hsz':=xr;rw[oB hi]at hsz';simp only[Instr.checkKey,dM,run_underlying hT,cU];simp only[Std.Legacy.Range.forIn_eq_forIn_range'];have hm:([:m]:Std.Legacy.Range).size=m:=by simp
   rw[hm];have asD:∀c z,cn E t' c z->c.length=t'.size:=λc z hz=>hz.size
   have bx:t'.agg=aS->t'.size=1:=z6
   have key:∀(k:Nat) (x:List t'.den) (j:Nat),x.length=k->bo (cn E t') (cs.drop (j*t'.size)) x->
     (forIn (List.range' j k) () λi __s=>(do
      let __do_lift <-sizeOf e
      let __do_lift <-part e cs.toArray (i*__do_lift)
      Instr.checkKey em d e __do_lift
      pure (ForInStep.yield ()):Sem (ForInStep Unit))).run P w= .ok () w:=by
    intro k
    induction k with
    |zero=>simp
    |succ k ih=>
     intro x j hx hcx';cases x with
     |nil=>grind
     |cons x0 xs=>
      have gx:=bo.get asD hcx' 0 (by simp);simp at gx;have Z0:t'.size≠0:=by grind
      have aUR:j*t'.size+t'.size<=cs.length:=by grind
      obtain⟨ux,h1,o1⟩:=z0 (w:=w) Oe xr bx (cs:=cs) (off:=j*t'.size) aUR;have h3:=qw em n e t' zE d au ux x0 ⟨_,gx,o1⟩;have nx:bo (cn E t') (cs.drop ((j+1)*t'.size)) xs:=by have:=bo.drop asD 1 hcx';grind [gO]
      have:=ih xs (j+1) (by grind) nx;rw[List.range'_succ,List.forIn_cons];simp only[dM,run_sizeOf hi,hsz',h1,h3,cU,Sem.run_pure];grind
   exact(congrArg (λr:Result Unit=>r.andThen λ_ w'=>Sem.run P (pure ()) w') (key m x 0 aUV (by grind))).trans rfl
  ·rename_i t0 _ _ fs hT;simp only[ax,dv]at h;obtain⟨vR,aQg⟩:=h;have Oe:t0.agg=aL:=by cases hl:fs.toList <;> rw[hl]at aQg <;> cases t0 <;> first | rfl | (simp[PQ]at aQg;done)
   rw[Oe]at hv;have e1:v= .agg cs.toArray:=hv;subst e1
   have key:∀(fl:List Field) (t:Ty) (off:Nat),PQ P (vl P n) fl t off=aL->∀(x:t.den),cn E t (cs.drop off) x->
     (forIn fl () λf __s=>(do
      if f.name≠ "_" then
       let __do_lift <-part f.type cs.toArray f.offset
       Instr.checkKey em d f.type __do_lift
       pure (ForInStep.yield ())
      else pure (ForInStep.yield ()):Sem (ForInStep Unit))).run P w= .ok () w:=by
    intro fl
    induction fl with
    |nil=>simp
    |cons f fl ih=>
     intro t off hc x hx;cases t <;> first | (simp[PQ]at hc;done) | skip
     rename_i ta tb;simp only[PQ,ax,dv,gE,mS]at hc;obtain⟨⟨⟨⟨⟨⟨aWN,aQn⟩,hz⟩,xr⟩,Oe⟩,zE⟩,aS9⟩:=hc;simp only[cn]at hx;obtain⟨xa,xb,ex,aTh,aYf⟩:=hx;have bx:ta.agg=aS->ta.size=1:=z6;have lx:xa.length=ta.size:=aTh.size;have sx1:(cs.drop off).take ta.size=xa:=by grind
     have sx2:cs.drop (off+ta.size)=xb:=by rw[<-gO,ex];grind
     have sx3:off+ta.size<=cs.length:=by grind
     obtain⟨ux,h1,o1⟩:=z0 (w:=w) Oe xr bx (cs:=cs) (off:=off) sx3;rw[sx1]at o1;have h3:=qw em n f.type ta zE d au ux x.1 ⟨_,aTh,o1⟩;grind [dM,cU,Sem.run_pure]
   have:=key fs.toList t0 0 aQg x (by grind);simp only[Instr.checkKey,dM,run_underlying hT,cU,Array.forIn_toList]at this ⊢;exact(congrArg (λr:Result Unit=>r.andThen λ_ w'=>Sem.run P (pure ()) w') this).trans rfl
  grind
theorem Ru{K:TypeId}{kt vt:Ty}(hK:vl P depth K kt=aL){v:Value}{x:kt.den}(hx:E8 E kt v x)(hE:E.w=w):∀(es:List fq) (l:List (kt.den×vt.den)) (i:Nat),Alike (CH E kt vt) es l->
  ∃r,(Instr.findAsking K v es i).run P w= .ok r w/\match r with | none=>lY kt x l=aF | some (j,u)=>∃n e,lY kt x l=aj n/\j=i+n/\es[n]? =aj e/\u=e.val
 |[],[],i,_=>⟨aF,by simp[Instr.findAsking],rfl⟩
 |e::es,p::l,i,⟨he,hr⟩=>by
  have hx':=hx;obtain⟨c1,r1,o1⟩:=hx';obtain⟨c2,r2,o2⟩:=he.1;have heq:(Op.equal K v e.key).run P w= .ok (kt.beq x p.1) w:=yE E hE depth K kt hK 10000 eG c1 c2 x p.1 v e.key r1 r2 o1 o2;cases hb:kt.beq x p.1 with
  |true=>
   rw[hb]at heq;refine⟨aj (i,e.val),by simp[Instr.findAsking,heq],0,e,by grind [lY],rfl,rfl,rfl⟩
  |false=>
   rw[hb]at heq;obtain⟨r,h1,h2⟩:=Ru hK hx hE es l (i+1) hr;refine⟨r,by simp[Instr.findAsking,heq,h1],?_⟩;grind [lY]
 |[],_::_,_,h=>h.elim
 |_::_,[],_,h=>h.elim
theorem aiM{d:TypeDesc}{kt vt:Ty}{v:Value}{x:kt.den}(hd:∀u y,E8 E kt u y->Instr.sameNow d v u=aj (kt.beq x y)):∀(es:List fq) (l:List (kt.den×vt.den)) (i:Nat),Alike (CH E kt vt) es l->
  ∃r,Instr.findNow d v es i=aj r/\match r with | none=>lY kt x l=aF | some (j,u)=>∃n e,lY kt x l=aj n/\j=i+n/\es[n]? =aj e/\u=e.val
 |[],[],i,_=>⟨aF,rfl,rfl⟩
 |e::es,p::l,i,⟨he,hr⟩=>by
  have h0:=hd e.key p.1 he.1;cases hb:kt.beq x p.1 with
  |true=>
   simp_all [Instr.findNow,lY]
  |false=>
   obtain⟨r,h1,h2⟩:=aiM hd es l (i+1) hr;grind [Instr.findNow,lY]
 |[],_::_,_,h=>h.elim
 |_::_,[],_,h=>h.elim
theorem PX{K:TypeId}{kt vt:Ty}(hK:vl P depth K kt=aL){v:Value}{x:kt.den}(hx:E8 E kt v x)(hE:E.w=w){es:List fq}{l:List (kt.den×vt.den)}(h:Alike (CH E kt vt) es l):
  ∃r,(Instr.findKey K v es).run P w= .ok r w/\match r with | none=>lY kt x l=aF | some (j,u)=>∃e,lY kt x l=aj j/\es[j]? =aj e/\u=e.val:=by
 have fin:∀r,(match r with | none=>lY kt x l=aF | some (j,u)=>∃n e,lY kt x l=aj n/\j=0+n/\es[n]? =aj e/\u=e.val)->match r with | none=>lY kt x l=aF | some (j,u)=>∃e,lY kt x l=aj j/\es[j]? =aj e/\u=e.val:=by grind
 have scalar:∀d,P.underlying K=aj d->(∀u y,E8 E kt u y->Instr.sameNow d v u=aj (kt.beq x y))->∃r,(Instr.findKey K v es).run P w= .ok r w/\match r with | none=>lY kt x l=aF | some (j,u)=>∃e,lY kt x l=aj j/\es[j]? =aj e/\u=e.val:=by intro d hd hs;obtain⟨r,h1,h2⟩:=aiM hs es l 0 h;exact⟨r,by simp[Instr.findKey,run_underlying hd,h1],fin r h2⟩
 have agg:∀d,P.underlying K=aj d->(∀u y,E8 E kt u y->Instr.sameNow d v u=aF)->∃r,(Instr.findKey K v es).run P w= .ok r w/\match r with | none=>lY kt x l=aF | some (j,u)=>∃e,lY kt x l=aj j/\es[j]? =aj e/\u=e.val:=by
  intro d hd hs;cases es with
  |nil=>
   cases l with
   |nil=>exact⟨aF,by simp[Instr.findKey,run_underlying hd,Instr.findNow],rfl⟩
   |cons _ _=>grind [Alike]
  |cons e es=>
   cases l with
   |nil=>grind [Alike]
   |cons p l=>
    have hn:Instr.findNow d v (e::es) 0=aF:=by grind [Instr.findNow,Alike,CH]
    obtain⟨r,h1,h2⟩:=Ru (w:=w) (vt:=vt) hK hx hE (e::es) (p::l) 0 h;exact⟨r,by simp[Instr.findKey,run_underlying hd,hn,h1],fin r h2⟩
 have hK0:=hK;unfold depth at hK0;simp only[vl]at hK0;obtain⟨cx,rx,ox⟩:=hx;split at hK0
 ·rename_i k k' hT;refine scalar _ hT λu y ⟨cy,ry,oy⟩=> ?_
  simp only[cn]at rx ry;have e1:cx=[v]:=ox;have e2:cy=[u]:=oy;grind [Instr.sameNow,Ty.beq]
 ·rename_i hT;refine scalar _ hT λu y ⟨cy,ry,oy⟩=> ?_
  simp only[cn]at rx ry;have e1:cx=[v]:=ox;have e2:cy=[u]:=oy;grind [Instr.sameNow,Ty.beq]
 ·rename_i hT;refine scalar _ hT λu y ⟨cy,ry,oy⟩=> ?_
  have e1:cx=[v]:=ox;have e2:cy=[u]:=oy;rw[rx]at e1;rw[ry]at e2;simp at e1 e2;subst e1 e2;have hs:∀a b:ByteArray,(a==b)=(a.toList==b.toList):=λa b=>by
   by_cases vQ:a=b
   ·grind [Go.MapKept.bytes_beq]
   ·have h1:(a==b)=aS:=by grind [Go.MapKept.bytes_beq]
    have h2:(a.toList==b.toList)=aS:=by
     cases h:(a.toList==b.toList) with
     |false=>rfl
     |true=>exact absurd (beq_eq .str a b rfl h) vQ
    grind
  grind [Instr.sameNow,Ty.beq]
 all_goals grind [Instr.sameNow]
end
section
variable {α β:Type} {R:α->β->Prop}
theorem Alike.get:∀ {xs:List α} {ys:List β} {i:Nat} {x:α},Alike R xs ys->xs[i]? =aj x->∃y,ys[i]? =aj y/\R x y
 |[],_,_,_,_,h=>by simp at h
 |_::_,[],_,_,h,_=>h.elim
 |x::xs,y::ys,0,z,⟨h1,_⟩,h=>by simp at h;subst h;exact⟨y,rfl,h1⟩
 |x::xs,y::ys,i+1,z,⟨_,h2⟩,h=>by simp at h;simpa using Alike.get h2 h
theorem Alike.set{x:α}{y:β}(hx:R x y):∀ {xs:List α} {ys:List β} (i:Nat),Alike R xs ys->Alike R (xs.set i x) (ys.set i y)
 |[],[],_,_=>trivial
 |[],_::_,_,h=>h.elim
 |_::_,[],_,h=>h.elim
 |_::_,_::_,0,⟨_,h2⟩=>⟨hx,h2⟩
 |_::_,_::_,i+1,⟨h1,h2⟩=>⟨h1,Alike.set hx i h2⟩
theorem Alike.push{x:α}{y:β}(hx:R x y):∀ {xs:List α} {ys:List β},Alike R xs ys->Alike R (xs++ [x]) (ys++ [y])
 |[],[],_=>⟨hx,trivial⟩
 |[],_::_,h=>h.elim
 |_::_,[],h=>h.elim
 |_::_,_::_,⟨h1,h2⟩=>⟨h1,Alike.push hx h2⟩
theorem Alike.erase:∀ {xs:List α} {ys:List β} (i:Nat),Alike R xs ys->Alike R (xs.eraseIdx i) (ys.eraseIdx i)
 |[],[],_,_=>by grind
 |[],_::_,_,h=>h.elim
 |_::_,[],_,h=>h.elim
 |_::_,_::_,0,⟨_,h2⟩=>h2
 |_::_,_::_,i+1,⟨h1,h2⟩=>⟨h1,Alike.erase i h2⟩
end
theorem SI{α:Type}{f:α->α->Bool}(hf:∀x,f x x=aL):∀xs:List α,mU f xs xs=aL
 |[]=>rfl
 |x::xs=>by simp[mU,hf x,SI hf xs]
theorem beq_refl:∀(t:Ty) (x:t.den),t.comp=aL->t.beq x x=aL
 | .int _,x,_=>by simp[Ty.beq]
 | .bool,x,_=>by simp[Ty.beq]
 | .str,x,_=>by simp[Ty.beq]
 | .slice _,_,h=>by grind [Ty.comp]
 | .fx _,_,h | .nK _,_,h=>by grind [Ty.comp]
 | .gF t,x,_=> @qD _ ((Ty.gF t).ato x x) rfl
 | .unit,_,_=>rfl
 | .pair a b,x,h=>by simp[Ty.comp]at h;simp[Ty.beq,beq_refl a _ h.1,beq_refl b _ h.2]
 | .arr _ t,x,h=>by exact SI (λy=>beq_refl t y h) x
section
variable {β:Type} {kt:Ty}
theorem nr{x:kt.den}:bV kt x ([]:List (kt.den×β))=aF:=rfl
theorem dQ{x:kt.den}{p:kt.den×β}{l:List (kt.den×β)}:bV kt x (p::l)=if kt.beq x p.1=aL then aj p.2 else bV kt x l:=by
 unfold bV;cases h:kt.beq x p.1 with
 |true=>simp[lY,h]
 |false=>
  simp only[lY,h];cases lY kt x l <;> simp
theorem si{x:kt.den}{v:β}:cY kt x v []=[(x,v)]:=rfl
theorem gG{x:kt.den}{v:β}{p:kt.den×β}{l:List (kt.den×β)}:cY kt x v (p::l)=if kt.beq x p.1=aL then(x,v)::l else p::cY kt x v l:=by grind [cY,lY]
theorem aA4{x:kt.den}:mM kt x ([]:List (kt.den×β))=[]:=rfl
theorem Qf{x:kt.den}{p:kt.den×β}{l:List (kt.den×β)}:mM kt x (p::l)=if kt.beq x p.1=aL then l else p::mM kt x l:=by grind [mM,lY]
theorem M8{x:kt.den}{v:β}:∀l:List (kt.den×β),(cY kt x v l).Perm ((x,v)::mM kt x l)
 |[]=>List.Perm.refl _
 |p::l=>by
  rw[gG,Qf];split
  ·simp
  ·exact((M8 l).cons p).trans (List.Perm.swap _ _ _)
theorem HV(hc:kt.comp=aL){x:kt.den}:∀ {l:List (kt.den×β)},(l.map (·.1)).Nodup->mM kt x l=l.filter λp=> !kt.beq x p.1
 |[],_=>rfl
 |p::l,hn=>by
  rw[bM,ee]at hn;rw[Qf];by_cases h:kt.beq x p.1=aL
  ·grind [beq_eq,sZ]
  ·have h':kt.beq x p.1=aS:=by grind
   simp[h'];rw[HV hc hn.2]
theorem lA(hc:kt.comp=aL){x:kt.den}{v:β}:∀ {l:List (kt.den×β)},(l.map (·.1)).Nodup->(bV kt x l=aj v↔(x,v)∈l)
 |[],_=>by simp[nr]
 |p::l,hn=>by
  rw[bM,ee]at hn;rw[dQ,bI];by_cases h:kt.beq x p.1=aL
  ·rw[if_pos h];have hx:=beq_eq kt _ _ hc h;constructor
   ·intro e;left;rw[hx,<-bh e]
   ·rintro(e | e)
    ·rw[<-e]
    ·exact absurd (eu.2 ⟨_,e,rfl⟩) (by rw[<-hx]at hn;exact hn.1)
  ·rw[if_neg h,lA hc hn.2];constructor
   ·exact .inr
   ·rintro(e | e)
    ·exact absurd (by rw[<-e];exact beq_refl kt x hc) h
    ·exact e
theorem Qg(hc:kt.comp=aL){x:kt.den}{l l':List (kt.den×β)}(hn:(l.map (·.1)).Nodup)(hp:l'.Perm l):bV kt x l'=bV kt x l:=by apply Option.ext;grind [lA]
theorem ack(hc:kt.comp=aL){x:kt.den}{l l':List (kt.den×β)}(hn:(l.map (·.1)).Nodup)(hp:l'.Perm l):(mM kt x l').Perm (mM kt x l):=by grind [HV]
theorem aup(hc:kt.comp=aL){x:kt.den}{v:β}{l l':List (kt.den×β)}(hn:(l.map (·.1)).Nodup)(hp:l'.Perm l):(cY kt x v l').Perm (cY kt x v l):=
 (M8 l').trans (((ack hc hn hp).cons _).trans (M8 l).symm)
theorem XJ(hc:kt.comp=aL){x:kt.den}{l:List (kt.den×β)}(hn:(l.map (·.1)).Nodup):((mM kt x l).map (·.1)).Nodup:=by grind [mM]
theorem XK(hc:kt.comp=aL){x:kt.den}{v:β}{l:List (kt.den×β)}(hn:(l.map (·.1)).Nodup):((cY kt x v l).map (·.1)).Nodup:=by grind [M8,HV,beq_refl]
end
theorem QS{E:Env}:∀(v:aA) (t:Ty) (x:t.den) (cs:List Value),V E v cs->(uZ t v).eval=aj x->cn E t cs x/\v.agg=t.agg/\v.eg=aL
 | .d t' x',t,x,cs,hv,h=>by
  have h':(Out.opt (wa t' t x')).eval=aj x:=by grind [uZ]
  obtain⟨rfl,h'⟩:=jj (gS.1 h');subst h';exact⟨hv,rfl,rfl⟩
 | .cT,.slice t,x,cs,hv,h=>by simp[uZ,aw]at h;subst h;simp[V]at hv;exact⟨⟨aF,0,[],by grind,by simp,by simp,λi v hh=>by grind,rfl⟩,rfl,rfl⟩
 | .pr a b,.pair ta tb,x,cs,hv,h=>by obtain⟨x1,h1,h2⟩:=ay.1 h;obtain⟨x2,h3,h4⟩:=ay.1 h2;obtain rfl:=aw.1 h4;obtain⟨ca,cb,rfl,ha,hb⟩:=hv;exact⟨⟨ca,cb,rfl,(QS a ta x1 ca ha h1).1,(QS b tb x2 cb hb h3).1⟩,rfl,rfl⟩
 | .cT,.int _,_,_,_,h | .cT,.bool,_,_,_,h | .cT,.str,_,_,_,h | .cT,.unit,_,_,_,h | .cT,.pair _ _,_,_,_,h | .cT,.arr _ _,_,_,_,h=>by grind [uZ,av]
 | .pr _ _,.int _,_,_,_,h | .pr _ _,.bool,_,_,_,h | .pr _ _,.str,_,_,_,h | .pr _ _,.unit,_,_,_,h | .pr _ _,.slice _,_,_,_,h | .pr _ _,.arr _ _,_,_,_,h=>by grind [uZ,av]
 | .undef,t,_,_,_,h | .gone,t,_,_,_,h | .iQ,t,_,_,_,h | .xu,t,_,_,_,h | .yl ..,t,_,_,_,h | .Dh,t,_,_,_,h | .ptr ..,t,_,_,_,h | .dx ..,t,_,_,_,h | .cg ..,t,_,_,_,h | .fn ..,t,_,_,_,h
 | .cons ..,t,_,_,_,h | .nil,t,_,_,_,h | .vec ..,t,_,_,_,h | .sb _,t,_,_,_,h | .bx ..,t,_,_,_,h | .cK ..,t,_,_,_,h | .mp ..,t,_,_,_,h | .rW ..,t,_,_,_,h | .Ay ..,t,_,_,_,h=>by cases t <;> simp[uZ,av]at h
theorem agC{v:aA}{t:Ty}{x:t.den}(h:(uZ t v).eval=aj x):v.eg=aL:=by cases v <;> first | rfl | (cases t <;> simp only[uZ,av]at h)
theorem Ik{E:Env}{v:aA}{y:Value}(hv:VS E v y){t:Ty}{x:t.den}(h:(uZ t v).eval=aj x):E8 E t y x:=by obtain⟨cs,h1,h2⟩:=hv.eg (agC h);obtain⟨h3,h4,_⟩:=QS v t x cs h1 h;grind [E8]
theorem Et{P:Program}{T K V':TypeId}{kt vt:Ty}(h:mapOf P T=aj (K,V',kt,vt)):P.underlying T=aj (.map K V')/\vl P depth K kt=aL/\ahy P V' (.d vt vt.zero)=aL:=by grind [mapOf]
theorem WX{k v k' v':Ty}{l:List (k.den×v.den)}{l':List (k'.den×v'.den)}(h:as9 k v k' v' l=aj l'):∃(e1:k=k') (e2:v=v'),(e1▸e2▸l)=l':=by grind [as9]
section
variable {P:Program} {C:Ctx} {g:Nat->iU} {β:Id->Option Pl} {s:AS} {a:Act} {w:World} {o:Oper}
theorem BF(h:Inv C g β s a w){id:Id}{ver:Nat}{kt vt:Ty}{l:List (kt.den×vt.den)}(ho:(s.s8 id ver kt vt).eval=aj l){y:Value}(hv:VS (s.env w g β) (.cK id ver) y):
  ∃fr pl es clock,s.bT id=aj (.obj ver fr (.mp kt vt l))/\β id=aj pl/\y= .map (aj pl.b)/\w.heap[pl.b]? =aj (.map es clock)/\g pl.b= .own (.id id) 0/\Zf (s.env w g β) kt vt es.toList l/\mz es.toList clock/\(l.map (·.1)).Nodup:=by
 unfold AS.s8 at ho;split at ho
 ·rename_i v fr k' v' l' mw;obtain⟨aMi,aU2⟩:=aD.1 ho;have aMi:v=ver:=by grind
  obtain⟨rfl,rfl,rfl⟩:=WX (gS.1 aU2);subst aMi;have di:=dI mw;obtain⟨pl,es,clock,h1,h2,h3,h4⟩:=h.bu id v fr _ di;have hs:=hv.single rfl rfl;obtain⟨b,hb,_,hc⟩:=hs;obtain⟨pl',h5,h6⟩:=hc ⟨fr,_,di⟩;refine⟨fr,pl,es,clock,di,h1,?_,h2,h3,h4.1.1,h4.2,h4.1.2⟩;grind
 grind [av]
theorem alb(h:Inv C g β s a w){T:TypeId}(eK:o.op= .makeMap T aF){s':AS}(he:(Kr P s o.dst T).eval=aj s'):fp P o a w (gh C s'):=by
 unfold Kr at he;split at he
 ·rename_i K V' kt vt q hm hd;obtain⟨hq,he⟩:=aD.1 he;obtain rfl:=aw.1 he;have ht:=Trans.alloc w g (.map #[] 0) (.own (.id (.new q 0)) 0);obtain⟨h1,h2⟩:=h.U4 hq (c:= .mp kt vt []) (p:=aj ⟨w.heap.size,0⟩) ht (λb hb=>⟨tl w _ hb,gZ _ _ _ au⟩) (λ_=>
   ⟨⟨w.heap.size,0⟩,#[],0,nH _ _ _,vZ w _,fV _ _ _,⟨⟨[],trivial,List.Perm.refl _⟩,kF⟩,mz.nil _⟩)
  refine .inl ⟨.map (aj w.heap.size),w.alloc (.map #[] 0),?_,_,_,h1.put o.dst (v:= .cK (.new q 0) 0) ⟨[.map (aj w.heap.size)],?_,rfl⟩⟩
  ·simp_all [Instr.makeMap,execOp]
  ·exact⟨_,rfl,rS hq _ _ _ _,λ_=>⟨_,nH _ _ _,rfl⟩⟩
 grind [av]
theorem E8.vs{E:Env}{t:Ty}{v:Value}{x:t.den}(h:E8 E t v x):VS E (.d t x) v:=by obtain⟨cs,h1,h2⟩:=h;exact⟨cs,by grind [V],h2⟩
theorem apn(h:Inv C g β s a w){T:TypeId}{x i:bB}{ok:Bool}(eK:o.op= .lookup T x i ok){v:aA}(he:(HN P s T (s.ev x) (s.ev i) ok).eval=aj v):fp P o a w (gh C (s.put o.dst v)):=by
 unfold HN at he;split at he
 ·rename_i K V' kt vt id ver hm hx;obtain⟨l,h1,he⟩:=ay.1 he;obtain⟨k,h2,he⟩:=ay.1 he;obtain rfl:=aw.1 he;obtain⟨hT,hK,hz⟩:=Et hm;have Xq:=h.ev x;rw[hx]at Xq;obtain⟨fr,pl,es,clock,g1,g2,g3,g4,g5,g6,g7,gn⟩:=BF h h1 Xq;have Of:=CW depth K kt hK;obtain⟨l0,g6,gp⟩:=g6;rw[<-Qg Of gn gp];clear gn h1;generalize l0=l at g6;have hk:=Ik (h.ev i) h2;have aOz:=qw (P:=P) (w:=w) es.isEmpty depth K kt hK 10000 eG _ _ hk;obtain⟨r,hf,hr⟩:=PX (P:=P) (w:=w) hK hk rfl g6;obtain⟨iz,zv,z1,z2,z3,z4⟩:=ru hz (s.env w g β);have aEj:E8 (s.env w g β) vt zv vt.zero:=⟨_,by simpa only[V]using z3,z4⟩;have hzero:(zeroValue V').run P w= .ok zv w:=by simp[zeroValue,typeInfo,z1,z2]
  obtain⟨val,pV,xV⟩:∃val:Value×Bool,(Instr.lookup T (a.eval x) (a.eval i) ok).run P w= .ok (if ok then .tuple #[val.1,.bool val.2] else val.1) w/\E8 (s.env w g β) vt val.1 ((bV kt k l).getD vt.zero)/\val.2=(bV kt k l).isSome:=by
   cases r with
   |none=>
    simp only at hr;have hg:bV kt k l=aF:=by simp[bV,hr]
    refine⟨(zv,aS),?_,by rw[hg];exact aEj,by rw[hg];rfl⟩;simp[Instr.lookup,run_underlying hT,g3,Go.MapKept.run_getObj_map g4,aOz,hf,hzero]
   |some u=>
    obtain⟨j,u⟩:=u;obtain⟨e,m1,m2,rfl⟩:=hr;obtain⟨p,m3,m4⟩:=g6.get m2;have hg:bV kt k l=aj p.2:=by simp[bV,m1,m3]
    refine⟨(e.val,aL),?_,by rw[hg];exact m4.2,by rw[hg];rfl⟩;simp[Instr.lookup,run_underlying hT,g3,Go.MapKept.run_getObj_map g4,aOz,hf]
  refine h.value (x:=if ok then .tuple #[val.1,.bool val.2] else val.1) ?_ (eH (f:=Instr.lookup T (a.eval x) (a.eval i) ok) (by simp only[execOp,eK]) pV)
  unfold aO1;cases ok with
  |true=>
   obtain⟨cs,c1,c2⟩:=xV.1;refine⟨[val.1,.bool val.2],rfl,?_⟩;simp only[VC];refine⟨_,_,cs,rfl,by simpa only[V]using c1,c2,_,_,[.bool val.2],rfl,?_,rfl,rfl⟩;simp only[V,cn,xV.2]
  |false=>exact xV.1.vs
 ·simp only[av]at he
theorem Inv.aJN(h:Inv C g β s a w){id:Id}{ver:Nat}{fr:Bool}{kt vt:Ty}{l l':List (kt.den×vt.den)}{pl:Pl}{es es':Array fq}{clock clock':Nat}(di:s.bT id=aj (.obj ver fr (.mp kt vt l)))(hp:β id=aj pl)
  (hb:w.heap[pl.b]? =aj (.map es clock)) (hg:g pl.b= .own (.id id) 0) (hr:Zf (s.env w g β) kt vt es'.toList l') (aXX:(l'.map (·.1)).Nodup) (aSB:mz es'.toList clock') (aTe:s.xm id=aL):
  Inv C g β (s.ba id (.obj ver aS (.mp kt vt l'))) a {w with heap:=w.heap.setIfInBounds pl.b (.map es' clock')}:=by
 have iB:pl.b < w.heap.size:=(cE.1 hb).1;have hother:∀b',b'≠pl.b->({w with heap:=w.heap.setIfInBounds pl.b (.map es' clock')}:World).heap[b']? =w.heap[b']? :=λb' kJ=>by
  show(w.heap.setIfInBounds pl.b _)[b']? =_
  rw[fG,if_neg (λe=>kJ e.symm)]
 have ht:Trans w {w with heap:=w.heap.setIfInBounds pl.b (.map es' clock')} g g:=by
  refine⟨rfl,rfl,⟨rfl,aB _⟩,by simp,λb' _=> ?_⟩;by_cases he:b'=pl.b
  ·subst he;rw[hg];exact⟨.inr (.inr ⟨id,0,rfl,aB _⟩),λ_ _ hh=>au⟩
  ·rw[hother b' he];cases NA:g b' with
   |free=>exact⟨rfl,rfl⟩
   |own o' k=>cases o' with
    |dX=>exact⟨rfl,rfl⟩
    |id i'=>exact⟨.inr (.inr ⟨i',k,rfl,aB _⟩),λoff v _ hv=>by simpa only[eL,hother b' he]using hv⟩
   |fresh=>exact .inl ⟨rfl,rfl⟩
   |gD=>exact⟨rfl,λcur e h=>⟨cur,h,rfl⟩⟩
 have hle:cM (s.env w g β) ((s.ba id (.obj ver aS (.mp kt vt l'))).env {w with heap:=w.heap.setIfInBounds pl.b (.map es' clock')} g β):=cM.ba di (aB _) ht (λ_ _=>rfl) (λ_=>rfl);refine h.step (cZ _ _ _) ht hle (iL.ba h.bu (by rw[di];simp) hle (λ_ _=>rfl) (λi ver fr c pl2 hi ZZ abD=>⟨hother _ (h.apart hg hi ZZ abD),rfl⟩) ?_ (by obtain rfl:=DX di aTe;exact Z5 di));refine⟨pl,es',clock',hp,?_,hg,⟨hr.mono hle.mem,aXX⟩,aSB⟩;show(w.heap.setIfInBounds pl.b _)[pl.b]? =_
 rw[fG,if_pos rfl,if_pos iB]
theorem apw(h:Inv C g β s a w){T:TypeId}{m k x:bB}(eK:o.op= .mapUpdate T m k x){s':AS}(he:(HS P s T (s.ev m) (s.ev k) (s.ev x)).eval=aj s'):fp P o a w (gh C (s'.put o.dst .undef)):=by
 unfold HS at he;split at he
 ·rename_i K V' kt vt id ver hm hx;obtain⟨l,h1,he⟩:=ay.1 he;obtain⟨kx,h2,he⟩:=ay.1 he;obtain⟨vx,h3,he⟩:=ay.1 he;obtain⟨aTe,he⟩:=aD.1 he;obtain rfl:=aw.1 he;obtain⟨hT,hK,_⟩:=Et hm;have Xq:=h.ev m;rw[hx]at Xq;obtain⟨fr,pl,es,clock,g1,g2,g3,g4,g5,g6,g7,gn⟩:=BF h h1 Xq;obtain⟨l0,g6,gp⟩:=g6;have hk:=Ik (h.ev k) h2;have hv:=Ik (h.ev x) h3;have aOz:=qw (P:=P) (w:=w) aS depth K kt hK 10000 eG _ _ hk;obtain⟨r,hf,hr⟩:=PX (P:=P) (w:=w) hK hk rfl g6;have Of:=CW depth K kt hK
  have fin:∀(es':Array fq) (clock':Nat),(Instr.mapUpdate T (a.eval m) (a.eval k) (a.eval x)).run P w= .ok () {w with heap:=w.heap.setIfInBounds pl.b (.map es' clock')}->Alike (CH (s.env w g β) kt vt) es'.toList (cY kt kx vx l0)->mz es'.toList clock'->
    fp P o a w (gh C ((s.ba id (.obj ver aS (.mp kt vt (cY kt kx vx l)))).put o.dst .undef)):=λes' clock' pV axR aSB=>
   .inr (.inl ⟨_,MT (f:=Instr.mapUpdate T (a.eval m) (a.eval k) (a.eval x)) (by grind [execOp]) pV,g,β,(h.aJN g1 g2 g4 g5 ⟨_,axR,aup Of gn gp⟩ (XK Of gn) aSB aTe).put o.dst VS.undef⟩)
  cases r with
  |none=>
   refine fin (es.push {key:=a.eval k,val:=a.eval x,born:=clock}) (clock+1) ?_ ?_ (by grind [mz])
   ·simp[Instr.mapUpdate,run_underlying hT,g3,Go.MapKept.run_getObj_map g4,aOz,hf,Go.MapKept.run_setObj_map _ g4]
   ·simp[cY,hr,Array.toList_push];exact g6.push ⟨hk,hv⟩
  |some u=>
   obtain⟨j,u⟩:=u;obtain⟨e,m1,m2,rfl⟩:=hr;obtain⟨p,m3,m4⟩:=g6.get m2;have aUF:kt.beq kx p.1=aL:=by
    have:∀(l:List (kt.den×vt.den)) (j:Nat),lY kt kx l=aj j->∀p,l[j]? =aj p->kt.beq kx p.1=aL:=by
     intro l
     induction l with
     |nil=>grind
     |cons q l ih=>
      grind [lY,dL]
    grind
   have aEg:=beq_eq kt kx p.1 Of aUF;have aUT:=E8.aKT Of (aEg▸m4.1) hk;have m2':es[j]? =aj e:=by grind
   refine fin (es.modify j λe=> {e with key:=a.eval k,val:=a.eval x}) clock ?_ ?_ (by rw[Array.toList_modify,Go.ChangeMaps.modify_eq_set _ _ _ _ m2];exact g7.set m2 rfl)
   ·simp[Instr.mapUpdate,run_underlying hT,g3,Go.MapKept.run_getObj_map g4,aOz,hf,m2',aUT,aC4 Of hk,Go.MapKept.run_setObj_map _ g4]
   grind [cY,Go.ChangeMaps.modify_eq_set,Alike.set,CH]
 grind [av]
end
end Go.Ab
end
