/-
  Made short by a program of mine (wip/tools/mini.py).
-/
import Derived.WalkKit
import Derived.KernelRfl
import Derived.OrdersIn
import Derived.LoopNIn
import Derived.TacticsIn
import Derived.RangeFuncCalls
import Derived.RangeFuncLeaves
import Derived.RangeFuncRecord
import Derived.LaidEql
import Derived.MapKept
import Derived.ChangeMaps3
set_option linter.unusedVariables false
set_option linter.unusedSimpArgs false
set_option maxRecDepth 100000
set_option synthInstance.maxSize 5000
open Go renaming IntKind->ki,FuncId->fw,Operand->bI,Program->aL,World->bV,MapEntry->fO
open List renaming replicate->ai,set->fW,length->ae
open BitVec renaming ofInt->aX
open UInt8 renaming ofNat->fm
open Nat renaming beq->ia
open Go.Value renaming oneCell'->dm
open Go.World renaming cell?->eI
open Go.Sem renaming run_bind->cg,run_pure->dK
open Go.Result renaming andThen_ok->bE
open Go.Addr renaming add_lit->fv
open Go.Op renaming equalIn->c7
open Option renaming some->au,none->aH
open Bool renaming true->aO,false->aV
noncomputable section
namespace Go.Ab
theorem gv:type_of% @Array.ext':= @Array.ext'
theorem qp:type_of% @Array.ext_getElem?:= @Array.ext_getElem?
theorem cJ:type_of% @Array.getD_eq_getD_getElem?:= @Array.getD_eq_getD_getElem?
theorem jZ:type_of% @Array.getElem?_append:= @Array.getElem?_append
theorem fq:type_of% @Array.getElem?_eq_getElem:= @Array.getElem?_eq_getElem
theorem bN:type_of% @Array.getElem?_eq_some_iff:= @Array.getElem?_eq_some_iff
theorem gD:type_of% @Array.getElem?_modify:= @Array.getElem?_modify
theorem dS:type_of% @Array.getElem?_setIfInBounds:= @Array.getElem?_setIfInBounds
theorem iH:type_of% @Array.getElem?_toList:= @Array.getElem?_toList
theorem cO:type_of% @Array.length_toList:= @Array.length_toList
theorem bY:type_of% @Array.toList_append:= @Array.toList_append
theorem iZ:type_of% @BitVec.ofInt_natCast:= @BitVec.ofInt_natCast
theorem qq:type_of% @BitVec.toNat_ofInt:= @BitVec.toNat_ofInt
theorem jQ:type_of% @BitVec.toNat_ofNat:= @BitVec.toNat_ofNat
theorem al:type_of% @Bool.and_eq_true:= @Bool.and_eq_true
theorem jx:type_of% @Bool.and_true:= @Bool.and_true
theorem iV:type_of% @Bool.eq_false_or_eq_true:= @Bool.eq_false_or_eq_true
theorem jR:type_of% @Bool.false_and:= @Bool.false_and
theorem cd:type_of% @Bool.false_eq_true:= @Bool.false_eq_true
theorem bP:type_of% @Bool.not_eq_true':= @Bool.not_eq_true'
theorem dA:type_of% @Bool.not_false:= @Bool.not_false
theorem bR:type_of% @Bool.not_true:= @Bool.not_true
theorem iu:type_of% @Bool.or_eq_true:= @Bool.or_eq_true
theorem dD:type_of% @Bool.true_and:= @Bool.true_and
theorem rN:type_of% @Int.add_zero:= @Int.add_zero
theorem nP:type_of% @Int.emod_emod_of_dvd:= @Int.emod_emod_of_dvd
theorem ff:type_of% @Int.emod_eq_of_lt:= @Int.emod_eq_of_lt
theorem jS:type_of% @Int.emod_lt_of_pos:= @Int.emod_lt_of_pos
theorem j7:type_of% @Int.emod_nonneg:= @Int.emod_nonneg
theorem rO:type_of% @Int.le_of_lt:= @Int.le_of_lt
theorem dp:type_of% @Int.le_refl:= @Int.le_refl
theorem rP:type_of% @Int.mul_comm:= @Int.mul_comm
theorem rQ:type_of% @Int.mul_emod:= @Int.mul_emod
theorem nQ:type_of% @Int.mul_nonneg:= @Int.mul_nonneg
theorem oO:type_of% @Int.natCast_emod:= @Int.natCast_emod
theorem j8:type_of% @Int.natCast_mul:= @Int.natCast_mul
theorem gI:type_of% @Int.natCast_nonneg:= @Int.natCast_nonneg
theorem j9:type_of% @Int.natCast_pow:= @Int.natCast_pow
theorem gg:type_of% @Int.pow_succ:= @Int.pow_succ
theorem kh:type_of% @Int.pow_zero:= @Int.pow_zero
theorem oP:type_of% @Int.sub_zero:= @Int.sub_zero
theorem jT:type_of% @Int.tdiv_eq_ediv_of_nonneg:= @Int.tdiv_eq_ediv_of_nonneg
theorem gY:type_of% @Int.tmod_eq_emod_of_nonneg:= @Int.tmod_eq_emod_of_nonneg
theorem lB:type_of% @List.Perm.refl:= @List.Perm.refl
theorem mY:type_of% @List.all_cons:= @List.all_cons
theorem dj:type_of% @List.all_eq_true:= @List.all_eq_true
theorem tZ:type_of% @List.any_cons:= @List.any_cons
theorem fg:type_of% @List.any_eq_false:= @List.any_eq_false
theorem jL:type_of% @List.any_eq_true:= @List.any_eq_true
theorem aK:type_of% @List.append_assoc:= @List.append_assoc
theorem bo:type_of% @List.append_nil:= @List.append_nil
theorem cD:type_of% @List.cons.injEq:= @List.cons.injEq
theorem oQ:type_of% @List.cons_append:= @List.cons_append
theorem jM:type_of% @List.drop_append:= @List.drop_append
theorem fU:type_of% @List.drop_drop:= @List.drop_drop
theorem aA:type_of% @List.drop_eq_getElem_cons:= @List.drop_eq_getElem_cons
theorem ka:type_of% @List.drop_left':= @List.drop_left'
theorem bj:type_of% @List.drop_length:= @List.drop_length
theorem gh:type_of% @List.drop_of_length_le:= @List.drop_of_length_le
theorem rR:type_of% @List.drop_take:= @List.drop_take
theorem aN:type_of% @List.drop_zero:= @List.drop_zero
theorem bm:type_of% @List.eq_nil_of_length_eq_zero:= @List.eq_nil_of_length_eq_zero
theorem oR:type_of% @List.ext_getElem:= @List.ext_getElem
theorem kj:type_of% @List.ext_getElem?:= @List.ext_getElem?
theorem lC:type_of% @List.filter_cons:= @List.filter_cons
theorem jl:type_of% @List.filter_eq_self:= @List.filter_eq_self
theorem qs:type_of% @List.filter_filter:= @List.filter_filter
theorem dg:type_of% @List.flatMap_cons:= @List.flatMap_cons
theorem oS:type_of% @List.flatMap_nil:= @List.flatMap_nil
theorem hJ:type_of% @List.flatten_cons:= @List.flatten_cons
theorem lD:type_of% @List.flatten_nil:= @List.flatten_nil
theorem bJ:type_of% @List.foldl_cons:= @List.foldl_cons
theorem eB:type_of% @List.foldl_nil:= @List.foldl_nil
theorem lu:type_of% @List.getD_cons_zero:= @List.getD_cons_zero
theorem aJ:type_of% @List.getD_eq_getElem?_getD:= @List.getD_eq_getElem?_getD
theorem fu:type_of% @List.getElem?_append_left:= @List.getElem?_append_left
theorem lE:type_of% @List.getElem?_cons_succ:= @List.getElem?_cons_succ
theorem fR:type_of% @List.getElem?_cons_zero:= @List.getElem?_cons_zero
theorem fx:type_of% @List.getElem?_drop:= @List.getElem?_drop
theorem bW:type_of% @List.getElem?_eq_getElem:= @List.getElem?_eq_getElem
theorem dG:type_of% @List.getElem?_eq_none:= @List.getElem?_eq_none
theorem dF:type_of% @List.getElem?_eq_some_iff:= @List.getElem?_eq_some_iff
theorem ei:type_of% @List.getElem?_map:= @List.getElem?_map
theorem dY:type_of% @List.getElem?_set_ne:= @List.getElem?_set_ne
theorem cU:type_of% @List.getElem?_take:= @List.getElem?_take
theorem aZ:type_of% @List.getElem_mem:= @List.getElem_mem
theorem ak:type_of% @List.length_append:= @List.length_append
theorem aB:type_of% @List.length_cons:= @List.length_cons
theorem cv:type_of% @List.length_drop:= @List.length_drop
theorem j2:type_of% @List.length_filter_le:= @List.length_filter_le
theorem bg:type_of% @List.length_map:= @List.length_map
theorem bw:type_of% @List.length_nil:= @List.length_nil
theorem cq:type_of% @List.length_replicate:= @List.length_replicate
theorem kc:type_of% @List.length_set:= @List.length_set
theorem bZ:type_of% @List.length_take:= @List.length_take
theorem ji:type_of% @List.map_append:= @List.map_append
theorem im:type_of% @List.map_congr_left:= @List.map_congr_left
theorem bn:type_of% @List.map_cons:= @List.map_cons
theorem oT:type_of% @List.map_map:= @List.map_map
theorem eF:type_of% @List.map_nil:= @List.map_nil
theorem bp:type_of% @List.mem_append:= @List.mem_append
theorem fV:type_of% @List.mem_append_left:= @List.mem_append_left
theorem j3:type_of% @List.mem_append_right:= @List.mem_append_right
theorem bA:type_of% @List.mem_cons:= @List.mem_cons
theorem aD:type_of% @List.mem_cons_of_mem:= @List.mem_cons_of_mem
theorem aG:type_of% @List.mem_cons_self:= @List.mem_cons_self
theorem eo:type_of% @List.mem_filter:= @List.mem_filter
theorem iP:type_of% @List.mem_flatMap:= @List.mem_flatMap
theorem j4:type_of% @List.mem_iff_getElem?:= @List.mem_iff_getElem?
theorem cr:type_of% @List.mem_map:= @List.mem_map
theorem dV:type_of% @List.mem_map_of_mem:= @List.mem_map_of_mem
theorem cS:type_of% @List.mem_of_getElem?:= @List.mem_of_getElem?
theorem kk:type_of% @List.mem_of_mem_take:= @List.mem_of_mem_take
theorem mi:type_of% @List.mem_replicate:= @List.mem_replicate
theorem bf:type_of% @List.mem_singleton:= @List.mem_singleton
theorem aT:type_of% @List.nil_append:= @List.nil_append
theorem km:type_of% @List.nodup_append:= @List.nodup_append
theorem df:type_of% @List.nodup_cons:= @List.nodup_cons
theorem ja:type_of% @List.nodup_nil:= @List.nodup_nil
theorem gK:type_of% @List.not_mem_nil:= @List.not_mem_nil
theorem qt:type_of% @List.pairwise_cons:= @List.pairwise_cons
theorem fJ:type_of% @List.set_getElem_self:= @List.set_getElem_self
theorem cC:type_of% @List.singleton_append:= @List.singleton_append
theorem hZ:type_of% @List.size_toArray:= @List.size_toArray
theorem mZ:type_of% @List.sum_cons:= @List.sum_cons
theorem lF:type_of% @List.take_append:= @List.take_append
theorem da:type_of% @List.take_append_drop:= @List.take_append_drop
theorem gC:type_of% @List.take_append_of_le_length:= @List.take_append_of_le_length
theorem ke:type_of% @List.take_left':= @List.take_left'
theorem bU:type_of% @List.take_length:= @List.take_length
theorem bH:type_of% @List.take_of_length_le:= @List.take_of_length_le
theorem pL:type_of% @List.take_succ_cons:= @List.take_succ_cons
theorem jU:type_of% @List.take_take:= @List.take_take
theorem fb:type_of% @List.take_zero:= @List.take_zero
theorem dZ:type_of% @Nat.add_assoc:= @Nat.add_assoc
theorem eH:type_of% @Nat.add_mul:= @Nat.add_mul
theorem jf:type_of% @Nat.add_sub_cancel_left:= @Nat.add_sub_cancel_left
theorem ct:type_of% @Nat.add_zero:= @Nat.add_zero
theorem eW:type_of% @Nat.eq_of_beq_eq_true:= @Nat.eq_of_beq_eq_true
theorem iQ:type_of% @Nat.eq_zero_or_pos:= @Nat.eq_zero_or_pos
theorem gE:type_of% @Nat.le_of_ble_eq_true:= @Nat.le_of_ble_eq_true
theorem aC:type_of% @Nat.le_refl:= @Nat.le_refl
theorem ko:type_of% @Nat.le_trans:= @Nat.le_trans
theorem gX:type_of% @Nat.lt_irrefl:= @Nat.lt_irrefl
theorem oV:type_of% @Nat.lt_or_ge:= @Nat.lt_or_ge
theorem fF:type_of% @Nat.min_eq_left:= @Nat.min_eq_left
theorem jN:type_of% @Nat.mod_eq_of_lt:= @Nat.mod_eq_of_lt
theorem oW:type_of% @Nat.mul_comm:= @Nat.mul_comm
theorem cT:type_of% @Nat.mul_le_mul_right:= @Nat.mul_le_mul_right
theorem kq:type_of% @Nat.mul_mod:= @Nat.mul_mod
theorem jy:type_of% @Nat.mul_one:= @Nat.mul_one
theorem iv:type_of% @Nat.one_mul:= @Nat.one_mul
theorem nR:type_of% @Nat.pow_add:= @Nat.pow_add
theorem j5:type_of% @Nat.sub_eq_zero_of_le:= @Nat.sub_eq_zero_of_le
theorem aU:type_of% @Nat.zero_add:= @Nat.zero_add
theorem aS:type_of% @Nat.zero_le:= @Nat.zero_le
theorem mj:type_of% @Nat.zero_mul:= @Nat.zero_mul
theorem dQ:type_of% @Option.getD_some:= @Option.getD_some
theorem bD:type_of% @Option.isSome_iff_exists:= @Option.isSome_iff_exists
theorem ml:type_of% @Option.isSome_none:= @Option.isSome_none
theorem dq:type_of% @Option.map_eq_some_iff:= @Option.map_eq_some_iff
theorem dT:type_of% @Option.map_some:= @Option.map_some
theorem aQ:type_of% @Option.some.inj:= @Option.some.inj
theorem az:type_of% @Option.some.injEq:= @Option.some.injEq
theorem cF:type_of% @Prod.mk.injEq:= @Prod.mk.injEq
theorem pM:type_of% @Quotient.exists_rep:= @Quotient.exists_rep
theorem fP:type_of% @Sum.getRight?_inr:= @Sum.getRight?_inr
theorem ig:type_of% @Sum.isLeft_inr:= @Sum.isLeft_inr
theorem lH:type_of% @and_self:= @and_self
theorem ea:type_of% @and_true:= @and_true
theorem gz:type_of% @beq_eq_false_iff_ne:= @beq_eq_false_iff_ne
theorem dw:type_of% @beq_iff_eq:= @beq_iff_eq
theorem bK:type_of% @congrArg:= @congrArg
theorem eY:type_of% @decide_eq_false:= @decide_eq_false
theorem gN:type_of% @decide_eq_false_iff_not:= @decide_eq_false_iff_not
theorem eC:type_of% @decide_eq_true:= @decide_eq_true
theorem aR:type_of% @decide_eq_true_eq:= @decide_eq_true_eq
theorem cQ:type_of% @decide_true:= @decide_true
theorem zI:type_of% @dif_neg:= @dif_neg
theorem zJ:type_of% @dif_pos:= @dif_pos
theorem kB:type_of% @getElem!_pos:= @getElem!_pos
theorem cK:type_of% @if_false:= @if_false
theorem cZ:type_of% @if_true:= @if_true
theorem qO:type_of% @of_decide_eq_false:= @of_decide_eq_false
theorem vF:type_of% @or_false:= @or_false
end Go.Ab
namespace Go.Ab
theorem eR{p:Prop}(h:p:=by decide):p:=h
theorem aq{p:Prop}(h:p:=by omega):p:=h
theorem cW{p:Prop}(h:p:=by kernel_rfl):p:=h
inductive Ty where
 |int (k:ki) | bool | str | slice (t:Ty) | unit | pair (a b:Ty) | arr (n:Nat) (t:Ty)
 |fX (t:Ty)
 |nL (t:Ty)
 |gR (t:Ty)
 deriving DecidableEq,Inhabited
@[reducible] def Ty.den:Ty->Type
 | .int _=>Int
 | .bool=>Bool
 | .str=>ByteArray
 | .slice t=>List t.den
 | .unit=>Unit
 | .pair a b=>a.den×b.den
 | .arr _ t=>List t.den
 | .fX t=>Option (List t.den)
 | .nL t=>Option t.den
 | .gR t=>Option (Nat×t.den)
def Ty.size:Ty->Nat
 | .unit=>0
 | .pair a b=>a.size+b.size
 | .arr n t=>n*t.size
 | .int _ | .bool | .str | .slice _ | .fX _ | .nL _ | .gR _=>1
def Ty.agg:Ty->Bool
 | .unit | .pair _ _ | .arr _ _=>aO
 | .int _ | .bool | .str | .slice _ | .fX _ | .nL _ | .gR _=>aV
def Ty.zero:(t:Ty)->t.den
 | .int _=>(0:Int)
 | .bool=>aV
 | .str=>ByteArray.empty
 | .slice _=> []
 | .unit=>()
 | .pair a b=>(a.zero,b.zero)
 | .arr n t=>ai n t.zero
 | .fX _=>aH
 | .nL _=>aH
 | .gR _=>aH
def Ty.comp:Ty->Bool
 | .slice _ | .fX _ | .nL _=>aV
 | .pair a b=>a.comp && b.comp
 | .arr _ t=>t.comp
 | .int _ | .bool | .str | .unit | .gR _=>aO
def mB{α:Type}(f:α->α->Bool):List α->List α->Bool
 |[],[]=>aO
 |x::xs,y::ys=>f x y && mB f xs ys
 |_,_=>aV
def Ty.aqR:(t:Ty)->(x y:t.den)->Decidable (x=y)
 | .int _,x,y=>inferInstanceAs (Decidable (@Eq Int x y))
 | .bool,x,y=>inferInstanceAs (Decidable (@Eq Bool x y))
 | .str,x,y=>inferInstanceAs (Decidable (@Eq ByteArray x y))
 | .slice t,x,y=> @instDecidableEqList t.den t.aqR x y
 | .unit,_,_=>isTrue rfl
 | .pair a b,x,y=> @instDecidableEqProd a.den b.den a.aqR b.aqR x y
 | .arr _ t,x,y=> @instDecidableEqList t.den t.aqR x y
 | .fX t,x,y=>letI:DecidableEq t.den:=t.aqR;inferInstanceAs (Decidable (@Eq (Option (List t.den)) x y))
 | .nL t,x,y=>letI:DecidableEq t.den:=t.aqR;inferInstanceAs (Decidable (@Eq (Option t.den) x y))
 | .gR t,x,y=>letI:DecidableEq t.den:=t.aqR;inferInstanceAs (Decidable (@Eq (Option (Nat×t.den)) x y))
def Ty.alx:Ty->Bool
 | .fX _=>aV
 | .slice t | .arr _ t | .nL t | .gR t=>t.alx
 | .pair a b=>a.alx && b.alx
 | .int _ | .bool | .str | .unit=>aO
def Ty.beq:(t:Ty)->t.den->t.den->Bool
 | .int _,x,y=>(x:Int)==y
 | .bool,x,y=>(x:Bool)==y
 | .str,x,y=>(x:ByteArray).toList==(y:ByteArray).toList
 | .slice t,x,y=>mB t.beq x y
 | .unit,_,_=>aO
 | .pair a b,x,y=>a.beq x.1 y.1 && b.beq x.2 y.2
 | .arr _ t,x,y=>mB t.beq x y
 | .fX t,x,y=>mB t.beq (x.getD []) (y.getD [])
 | .nL _,_,_=>aV
 | .gR t,x,y=> @decide (x=y) ((Ty.gR t).aqR x y)
def sh(t t':Ty)(x:t.den):Option t'.den:=if h:t=t' then au (h▸x) else aH
def VG:(a b:Ty)->Option (a.den->b.den)
 | .fX t,.slice t'=>if h:t=t' then au λo=>cast (bK (λt:Ty=>List t.den) h) (o.getD []) else aH
 | .slice t,.fX t'=>if h:t=t' then au λl=>au (cast (bK (λt:Ty=>List t.den) h) l) else aH
 | .pair a b,.pair c d=>match VG a c,VG b d with
  |some f,au k=>au λx=>(f x.1,k x.2)
  |_,_=>aH
 | .slice a,.slice b=>match VG a b with
  |some f=>au (List.map f)
  |none=>aH
 |a,b=>if h:a=b then au (cast (bK Ty.den h)) else aH
def aDt(a b:Ty)(x:a.den):b.den:=match VG a b with | some f=>f x | none=>b.zero
def Ea(t t':Ty)(x:t.den):Option t'.den:=
 match sh t t' x with
 |some y=>au y
 |none=>match VG t t' with
  |some f=>au (f x)
  |none=>aH
def nth(t:Ty)(l:List t.den)(i:Nat):t.den:=l.getD i t.zero
inductive Id where
 |bF (k:Nat)
 |new (site j:Nat)
 deriving DecidableEq,Inhabited
inductive Gs where
 |fst | snd
 |idx (i:Nat)
 |arr
structure tm where
 y:Nat
 ps:Array Tmp
 as:Code
 b:Code
inductive aF where
 |undef
 |gone
 |dd | jW | vB | AL
 |d (t:Ty) (x:t.den)
 |pr (a b:aF)
 |ptr (id:Id) (ver:Nat) (p:List Gs) (n:Nat)
 |eG (t:Ty) (x:t.den)
 |cM (id:Id) (ver:Nat) (p:List Gs) (c i len:Nat)
 |fn (f:fw) (caps:aF)
 |cons (a b:aF)
 |nil
 |vec (e:TypeId) (t:Ty) (l:List t.den)
 |sb (l:List Int)
 |bx (e:TypeId) (z:Nat) (c:aF)
 |dM (id:Id) (ver:Nat)
 |mp (k v:Ty) (l:List (k.den×v.den))
 |qa (q:Id) (ver:Nat) (k v:Ty) (rest:List (k.den×v.den)) (cur:Option (k.den×v.den))
 |yl (id:Id) (ver:Nat)
 |uN (c:tm) (frame:aF) (p:Nat)
inductive dE where
 |dead
 |obj (ver:Nat) (fr:Bool) (c:aF)
def eL(c:aF):dE:= .obj 0 aV c
def dz(c:aF):List dE:=[.obj 0 aV c]
def fa(q:Nat):aF:= .ptr (.new q 0) 0 [] 0
def lq(q n:Nat):aF:= .cM (.new q 0) 0 [] 0 0 n
def oc:aF:= .d .unit ()
def cj:aF:= .undef
structure AS where
 cn:List aF
 b8:List dE
 news:List (List dE)
def ba(n:Nat)(l:List aF):List aF:=ai n .undef++l
def bC(n:Nat)(l:List (List dE)):List (List dE):=ai n []++l
inductive Out(α:Type):Type 1 where
 |ok (a:α)
 |fail
 |si (c:Bool) (r:Out α)
 |get {β:Type} (x:Option β) (f:β->Out α)
 |br (c:Bool) (a b:Out α)
def Out.eval{α:Type}:Out α->Option α
 | .ok a=>au a
 | .fail=>aH
 | .si c r=>match c with | true=>r.eval | false=>aH
 | .get x f=>match x with | some y=>(f y).eval | none=>aH
 | .br c a b=>match c with | true=>a.eval | false=>b.eval
def aP{α:Type}(c:Bool)(x y:Option α):Option α:=match c with | true=>x | false=>y
def ax{α β:Type}(x:Option α)(f:α->Option β):Option β:=match x with | some a=>f a | none=>aH
def Out.run{α R:Type}:Out α->(α->Option R)->Option R
 | .ok a,k=>k a
 | .fail,_=>aH
 | .si c r,k=>aP c (r.run k) aH
 | .get x f,k=>ax x λy=>(f y).run k
 | .br c a b,k=>aP c (a.run k) (b.run k)
def Out.bind{α β:Type}:Out α->(α->Out β)->Out β
 | .ok a,f=>f a
 | .fail,_=> .fail
 | .si c r,f=> .si c (r.bind f)
 | .get x g,f=> .get x λy=>(g y).bind f
 | .br c a b,f=> .br c (a.bind f) (b.bind f)
def Out.opt{α:Type}:Option α->Out α
 |some a=> .ok a
 |none=> .fail
def Out.guard{α:Type}(c:Bool)(r:Out α):Out α:=match c with | true=>r | false=> .fail
def aF.size:aF->Nat
 | .d t _=>t.size
 | .pr a b=>a.size+b.size
 |_=>1
def aF.agg:aF->Bool
 | .d t _=>t.agg
 | .pr _ _=>aO
 |_=>aV
def aF.eJ:aF->Bool
 | .undef | .cons _ _ | .nil | .vec .. | .bx .. | .mp .. | .qa .. | .uN .. =>aV
 |_=>aO
def aF.strip:aF->aF
 | .bx _ _ c=>c
 |c=>c
def aF.wrap:aF->aF->aF
 | .bx e z _,c=> .bx e z c
 |_,c=>c
def Ku:aF->aF->aF
 | .d a x,.d b y=> .d (.pair a b) (x,y)
 |a,b=> .pr a b
def ofConst:Value->aF
 | .bool b=> .d .bool b
 | .int k n=> .d (.int k) n
 | .string s=> .d .str s
 | .slice aH 0 0=> .dd
 | .pointer aH=> .jW
 | .nilFunc=> .vB
 | .map aH=> .AL
 |_=> .undef
def AS.slot(s:AS)(i:Nat):aF:=s.cn.getD i .undef
def AS.ev(s:AS):bI->aF
 | .tmp t=>s.slot t
 | .const v=>ofConst v
 | .func f=> .fn f .nil
 | .global _=> .undef
def AS.put(s:AS)(dst:Option Tmp)(v:aF):AS:=
 match dst with
 |some t=> {s with cn:=s.cn.set t v}
 |none=>s
def AS.bS(s:AS):Id->Option dE
 | .bF k=>s.b8[k]?
 | .new i j=>(s.news.getD i [])[j]?
def AS.aY(s:AS)(id:Id)(e:dE):AS:=
 match id with
 | .bF k=> {s with b8:=s.b8.set k e}
 | .new i j=> {s with news:=s.news.set i ((s.news.getD i []).set j e)}
def AS.dW(s:AS)(i:Nat):Bool:=match s.news[i]? with | some []=>aO | _=>aV
def AS.born(s:AS)(i:Nat)(es:List dE):AS:= {s with news:=s.news.set i es}
def AS.obj(s:AS)(id:Id):Option (Nat×Bool×aF):=
 match s.bS id with
 |some (.obj v f c)=>au (v,f,c)
 |_=>aH
def aIP:List Nat:=[99]
def Vb(P:aL)(nl:Bool):Nat->TypeId->Option Ty
 | 0,_=>aH
 |n+1,T=>
  match P.underlying T with
  |some (.int k)=>au (.int k)
  |some .bool=>au .bool
  |some .string=>au .str
  |some (.slice e)=>match Vb P aV n e with | some t=>au (match nl with | true=> .fX t | false=> .slice t) | none=>aH
  |some (.array k e)=>match Vb P nl n e with | some t=>au (.arr k t) | none=>aH
  |some (.pointer e)=>match Vb P aV n e with | some t=>au (match aIP.contains T with | true=> .gR t | false=> .nL t) | none=>aH
  |some (.struct fs)=>fs.toList.foldr (λf acc=>match Vb P nl n f.type,acc with | some a,au b=>au (.pair a b) | _,_=>aH) (au .unit)
  |_=>aH
def agl(P:aL):Nat->TypeId->Option Ty:=Vb P aV
def zeroOf(P:aL):Nat->TypeId->Option aF
 | 0,_=>aH
 |n+1,T=>
  match P.underlying T with
  |some (.int k)=>au (.d (.int k) (0:Int))
  |some .bool=>au (.d .bool aV)
  |some .string=>au (.d .str ByteArray.empty)
  |some (.slice _)=>au .dd
  |some (.pointer _)=>au .jW
  |some (.map _ _)=>au .AL
  |some (.func _ _ _)=>au .vB
  |some (.array k e)=>match agl P n e with | some t=>au (.d (.arr k t) (ai k t.zero)) | none=>aH
  |some (.struct fs)=>fs.toList.foldr (λf acc=>match zeroOf P n f.type,acc with | some a,au b=>au (Ku a b) | _,_=>aH) (au (.d .unit ()))
  |_=>aH
def depth:Nat:=12
def fits(P:aL)(T:TypeId)(v:aF):Bool:=
 v.eJ && (P.cellsOf T==v.size) &&
 (match P.underlying T with | some (.struct _)=>v.agg | some (.array _ _)=>v.agg | some _=> !v.agg | none=>aV)
def nf:Nat->List Gs
 | 0=> [.fst]
 |n+1=> .snd::nf n
def loc:aF->List Gs->Out (Nat×aF)
 |c,[]=> .ok (0,c)
 |c,.arr::p=>loc c p
 | .pr a _,.fst::p=>loc a p
 | .pr a b,.snd::p=>(loc b p).bind λ(n,v)=> .ok (a.size+n,v)
 | .d (.pair a _) x,.fst::p=>loc (.d a x.1) p
 | .d (.pair a b) x,.snd::p=>(loc (.d b x.2) p).bind λ(n,v)=> .ok (a.size+n,v)
 | .d (.arr _ t) l,.idx i::p=> .si (decide (i < (l:List t.den).length)) ((loc (.d t (nth t l i)) p).bind λ(n,v)=> .ok (i*t.size+n,v))
 | .vec _ t l,.idx i::p=> .si (decide (i < l.length)) ((loc (.d t (nth t l i)) p).bind λ(n,v)=> .ok (i*t.size+n,v))
 |_,_::_=> .fail
def wF:aF->List Gs->aF->Out aF
 |c,.arr::p,v=>wF c p v
 | .vec ..,[],_=> .fail
 | .mp ..,[],_=> .fail
 | .qa ..,[],_=> .fail
 | .uN ..,[],_=> .fail
 |c,[],v=> .guard (v.eJ && (c.size==v.size)) (.ok v)
 | .pr a b,.fst::p,v=>(wF a p v).bind λa'=> .ok (Ku a' b)
 | .pr a b,.snd::p,v=>(wF b p v).bind λb'=> .ok (Ku a b')
 | .d (.pair a b) x,.fst::p,v=>(wF (.d a x.1) p v).bind λa'=> .ok (Ku a' (.d b x.2))
 | .d (.pair a b) x,.snd::p,v=>(wF (.d b x.2) p v).bind λb'=> .ok (Ku (.d a x.1) b')
 | .d (.arr n t) l,.idx i::p,v=> .si (decide (i < (l:List t.den).length)) ((wF (.d t (nth t l i)) p v).bind fun
   | .d t' y=>(Out.opt (sh t' t y)).bind λy=> .ok (.d (.arr n t) ((l:List t.den).set i y))
   |_=> .fail)
 | .vec e t l,.idx i::p,v=> .si (decide (i < l.length)) ((wF (.d t (nth t l i)) p v).bind fun
   | .d t' y=>(Out.opt (sh t' t y)).bind λy=> .ok (.vec e t (l.set i y))
   |_=> .fail)
 |_,_::_,_=> .fail
def AS.row(s:AS)(id:Id)(ver:Nat)(p:List Gs):Out (Nat×(t:Ty)×List t.den):=
 match s.obj id with
 |some (v,_,c)=> .guard (v==ver) ((loc c.strip p).bind fun
  | (n,.d (.arr _ t) l)=> .ok (n,⟨t,l⟩)
  | (n,.vec _ t l)=> .ok (n,⟨t,l⟩)
  |_=> .fail)
 |none=> .fail
def cut{α:Type}(l:List α)(i len:Nat):List α:=(l.drop i).take len
def AS.iN(s:AS):(t:Ty)->aF->Out t.den
 |t,.d t' x=>Out.opt (Ea t' t x)
 | .slice _,.dd=> .ok []
 | .fX _,.dd=> .ok aH
 | .nL _,.jW=> .ok aH
 | .gR _,.jW=> .ok aH
 | .slice t,.cM id ver p c i len=>(s.row id ver p).bind λr=> .si (decide (r.1+i*r.2.1.size=c/\i+len<=r.2.2.length)) (Out.opt (Ea (.slice r.2.1) (.slice t) (cut r.2.2 i len)))
 | .fX t,.cM id ver p c i len=>(s.row id ver p).bind λr=> .si (decide (r.1+i*r.2.1.size=c/\i+len<=r.2.2.length)) (Out.opt (Ea (.slice r.2.1) (.fX t) (cut r.2.2 i len)))
 | .pair a b,.pr x y=>(s.iN a x).bind λx=>(s.iN b y).bind λy=> .ok (x,y)
 |_,_=> .fail
def aF.shared:aF->List Id
 | .cM id _ _ _ _ _=> [id]
 | .pr a b=>a.shared++b.shared
 |_=> []
def AS.freeze(s:AS)(id:Id):AS:=
 match s.bS id with
 |some (.obj v _ c)=>s.aY id (.obj v aO c)
 |_=>s
def AS.bt(s:AS):List Id->AS
 |[]=>s
 |id::ids=>(s.freeze id).bt ids
end Go.Ab
namespace Go.Ab
def asC{α:Type}(f:α->List Value->Option (List Value)):List α->List Value->Option (List Value)
 |[],cs=>au cs
 |x::xs,cs=>match f x cs with | some r=>asC f xs r | none=>aH
def tt:(t:Ty)->t.den->List Value->Option (List Value)
 | .int k,x,.int k' n::r=>match decide (k=k'),decide (n=(x:Int)) with | true,aO=>au r | _,_=>aH
 | .bool,x,.bool b::r=>match decide (b=(x:Bool)) with | true=>au r | false=>aH
 | .str,x,.string s::r=>match decide (s=(x:ByteArray)) with | true=>au r | false=>aH
 | .slice _,[],.slice aH 0 0::r=>au r
 | .fX _,aH,.slice aH 0 0::r=>au r
 | .nL _,aH,.pointer aH::r=>au r
 | .gR _,aH,.pointer aH::r=>au r
 | .unit,_,r=>au r
 | .pair a b,x,r=>match tt a x.1 r with | some r'=>tt b x.2 r' | none=>aH
 | .arr n t,l,r=>match decide ((l:List t.den).length=n) with | true=>asC (tt t) l r | false=>aH
 |_,_,_=>aH
def P3:aF->List Value->Option (List Value)
 | .d t x,r=>tt t x r
 | .dd,.slice aH 0 0::r=>au r
 | .jW,.pointer aH::r=>au r
 | .vB,.nilFunc::r=>au r
 | .AL,.map aH::r=>au r
 | .pr a b,r=>match P3 a r with | some r'=>P3 b r' | none=>aH
 |_,_=>aH
def qJ:Value->Bool | .agg _=>aO | _=>aV
def ab2(P:aL)(T:TypeId)(z:aF):Bool:=
 match P.info? T with
 |some i=>match i.zero with
  |some zv=>(match P3 z zv.cells.toList with | some []=>aO | _=>aV) && (qJ zv==z.agg)
  |none=>aV
 |none=>aV
structure iq where
 val:aF
 b8:List dE
 news:List dE
structure Entry where
 params:List (Option Ty)
 X:Type
 run:List aF->List dE->Option X
 out:List aF->List dE->X->iq
 sp:X->Out X:= .ok
 al7:∀x y,(sp x).eval=au y->y=x:=by exact λx y h=>(aQ h).symm
 rel:Bool:=aV
 set:List aF->List dE->X->Prop:=λ_ _ _=>False
abbrev qh:=fw->List aF->Option Entry
def aF.ids:aF->List Id
 | .ptr id _ _ _=> [id]
 | .cM id _ _ _ _ _=> [id]
 | .pr a b=>a.ids++b.ids
 | .cons a b=>a.ids++b.ids
 | .fn _ c=>c.ids
 | .bx _ _ c=>c.ids
 | .dM id _=> [id]
 | .yl id _=> [id]
 | .uN _ f _=>f.ids
 | .qa id _ _ _ _ _=> [id]
 |_=> []
def dE.ids:dE->List Id
 | .obj _ _ c=>c.ids
 | .dead=> []
def AS.reach(s:AS):Nat->List Id->List Id->List Id
 | 0,_,acc=>acc
 |_+1,[],acc=>acc
 |n+1,id::todo,acc=>if acc.contains id then s.reach n todo acc else s.reach n (((s.bS id).getD .dead).ids++todo) (acc++ [id])
def idxOf(id:Id):List Id->Option Nat
 |[]=>aH
 |x::xs=>if x=id then au 0 else(idxOf id xs).map (· +1)
def aF.iL(ρ:Id->Nat->Option (Id×Nat)):aF->aF
 | .ptr id ver p n=>match ρ id ver with | some r=> .ptr r.1 r.2 p n | none=> .gone
 | .cM id ver p c i len=>match ρ id ver with | some r=> .cM r.1 r.2 p c i len | none=> .gone
 | .pr a b=> .pr (a.iL ρ) (b.iL ρ)
 | .cons a b=> .cons (a.iL ρ) (b.iL ρ)
 | .fn f c=> .fn f (c.iL ρ)
 | .bx e z c=> .bx e z (c.iL ρ)
 | .dM id ver=>match ρ id ver with | some r=> .dM r.1 r.2 | none=> .gone
 | .yl id ver=>match ρ id ver with | some r=> .yl r.1 r.2 | none=> .gone
 | .uN k f p=> .uN k (f.iL ρ) p
 | .qa id _ k v rest cur=> .qa id 0 k v rest cur
 |v=>v
def AS.vN(s:AS)(ids:List Id)(id:Id)(ver:Nat):Option (Id×Nat):=
 match idxOf id ids,s.obj id with
 |some k,au (v,_,_)=>if v=ver then au (.bF k,0) else aH
 |_,_=>aH
def AS.lZ(s:AS)(ids:List Id)(id:Id):dE:=
 match s.bS id with
 |some (.obj _ fr c)=> .obj 0 fr (c.iL (s.vN ids))
 |_=> .dead
def AS.Al(s:AS)(id:Id):Nat:=match s.obj id with | some (v,_,_)=>v | none=>0
def aAI(ids:List Id)(dst:Nat):Id->Id
 | .bF k=>ids.getD k (.bF 0)
 | .new _ j=> .new dst j
def AS.tP(s:AS)(ids:List Id)(dst:Nat):Id->Nat->Option (Id×Nat)
 | .bF k,v=>match ids[k]? with | some id=>au (id,s.Al id+v) | none=>aH
 | .new _ j,v=>au (.new dst j,v)
def AS.qG(s:AS)(ids:List Id)(dst:Nat)(ver:Nat):dE->dE
 | .obj v fr c=> .obj (ver+v) fr (c.iL (s.tP ids dst))
 | .dead=> .dead
def AS.conv(s:AS):List (Option Ty)->List aF->Out (List aF×List Id)
 |[],[]=> .ok ([],[])
 |some t::ps,v::vs=>(s.iN t v).bind λx=>(s.conv ps vs).bind λr=> .ok (.d t x::r.1,v.shared++r.2)
 |none::ps,v::vs=>(s.conv ps vs).bind λr=> .ok (v::r.1,r.2)
 |_,_=> .fail
def AS.jw(s0:AS)(all:List Id)(dst:Nat)(s:AS):List Id->List dE->AS
 |id::ids,e::es=>AS.jw s0 all dst (s.aY id (s0.qG all dst (s0.Al id) e)) ids es
 |_,_=>s
def aF.list:aF->List aF
 | .cons a b=>a::b.list
 |_=> []
def AS.made(s:AS)(ids:List Id)(t:Nat):List dE->AS
 |[]=>s
 |e::es=>s.born t ((e::es).map (s.qG ids t 0))
def AS.back(s:AS)(ids:List Id)(dst:Option Tmp)(g:iq):Out AS:=
 match dst with
 |some t=> .guard ((g.b8.length==ids.length) && (g.news.isEmpty || s.dW t))
   (.ok ((AS.jw s ids t (s.made ids t g.news) ids g.b8).put dst (g.val.iL (s.tP ids t))))
 |none=> .guard ((g.b8.length==ids.length) && g.news.isEmpty) (.ok (AS.jw s ids 0 s ids g.b8))
def AS.XV(s:AS)(vs:List aF):List Id:=s.reach 64 (vs.flatMap aF.ids) []
def AS.M0(s:AS)(id:Id):Bool:=match s.obj id with | some (_,aO,.mp ..)=>aV | _=>aO
def AS.enter(s:AS)(en:Entry)(dst:Option Tmp)(ids:List Id)(vs:List aF):Out AS:= .guard (ids.all λid=>(s.obj id).isSome && s.M0 id) (.get (en.run (vs.map (aF.iL (s.vN ids))) (ids.map (s.lZ ids))) λx=>(en.sp x).bind λx=>s.back ids dst (en.out (vs.map (aF.iL (s.vN ids))) (ids.map (s.lZ ids)) x))
def AS.call(s:AS)(en:Entry)(dst:Option Tmp)(vs:List aF):Out AS:=(s.conv en.params vs).bind λr=>(s.bt r.2).enter en dst ((s.bt r.2).XV r.1) r.1
def di(op:BinOp)(k:ki)(x y:Int):Int:=
 match op with
 | .and=>k.wrap ((aX k.bits x &&& aX k.bits y).toNat)
 | .or=>k.wrap ((aX k.bits x ||| aX k.bits y).toNat)
 | .xor=>k.wrap ((aX k.bits x^^^aX k.bits y).toNat)
 |_=>k.wrap ((aX k.bits x &&& ~~~aX k.bits y).toNat)
def atq(op:BinOp)(k:ki)(x:Int)(k':ki)(y:Int):Out aF:=
 match op with
 | .shl=> .si (decide (0<=y)) (.ok (.d (.int k) (k.wrap (x*2^(min y.toNat k.bits)))))
 | .shr=> .si (decide (0<=y)) (.ok (.d (.int k) (x.fdiv (2^(min y.toNat k.bits)))))
 |_=> .guard (decide (k=k')) (match op with
  | .add=> .ok (.d (.int k) (k.wrap (x+y)))
  | .sub=> .ok (.d (.int k) (k.wrap (x - y)))
  | .mul=> .ok (.d (.int k) (k.wrap (x*y)))
  | .quo=> .si (!(decide (y=0))) (.ok (.d (.int k) (k.wrap (x.tdiv y))))
  | .rem=> .si (!(decide (y=0))) (.ok (.d (.int k) (x.tmod y)))
  | .eql=> .ok (.d .bool (x==y))
  | .neq=> .ok (.d .bool (x !=y))
  | .lss=> .ok (.d .bool (decide (x < y)))
  | .leq=> .ok (.d .bool (decide (x<=y)))
  | .gtr=> .ok (.d .bool (decide (x > y)))
  | .geq=> .ok (.d .bool (decide (x>=y)))
  |op=> .ok (.d (.int k) (di op k x y)))
def awa(op:BinOp)(x y:ByteArray):Out aF:=
 match op with
 | .add=> .si (decide (((x.size+y.size:Nat):Int)<=IntKind.i64.max)) (.ok (.d .str (x++y)))
 | .eql=> .ok (.d .bool (x.toList==y.toList))
 | .neq=> .ok (.d .bool (!(x.toList==y.toList)))
 | .lss=> .ok (.d .bool (Op.bytesLess x.toList y.toList))
 | .geq=> .ok (.d .bool (!(Op.bytesLess x.toList y.toList)))
 |_=> .fail
def Ic(P:aL)(T:TypeId)(b:Bool):Bool:=
 match P.underlying T with | some (.struct _)=>b | some (.array _ _)=>b | some _=> !b | none=>aV
def HY(P:aL)(si:TypeId->Ty->Bool):List Field->Ty->Nat->Bool
 |[],.unit,_=>aO
 |f::fs,.pair a b,off=> !(f.name== "_") && (f.offset==off) && !(a.size==0) && (P.cellsOf f.type==a.size) && Ic P f.type a.agg && si f.type a && HY P si fs b (off+a.size)
 |_,_,_=>aV
def azu(P:aL)(u:TypeId):Bool:=match P.info? u with | some i=> !(i.size==0) | none=>aV
def aFg(P:aL)(T:TypeId):Bool:=match P.underlying T with | some (.pointer u)=>azu P u | _=>aV
def ra(P:aL):Nat->TypeId->Ty->Bool
 | 0,_,_=>aV
 |n+1,T,t=>match P.underlying T,t with
  |some (.int _),.int _=>aO
  |some .bool,.bool=>aO
  |some .string,.str=>aO
  |some (.pointer u),.gR t=>azu P u && t.alx
  |some (.array m e),.arr m' t'=>(m==m') && !(t'.size==0) && (P.cellsOf e==t'.size) && Ic P e t'.agg && ra P n e t'
  |some (.struct fs),t=> !P.stoodInHeld T && HY P (ra P n) fs.toList t 0
  |_,_=>aV
def aFs(P:aL)(T:TypeId):Bool:=match P.underlying T with | some (.pointer u)=>(P.info? u).isSome | _=>aV
def w9(P:aL)(T:TypeId):aF->aF->Out Bool
 | .d (.gR t) x,.d (.gR t') y=>(Out.opt (sh (.gR t') (.gR t) y)).bind λy=> .guard (aFg P T && t.alx) (.ok ((Ty.gR t).beq x y))
 | .d t x,.d t' y=>(Out.opt (sh t' t y)).bind λy=> .guard ((t.agg && !P.eqGuardType P.depth T || decide (t= .bool)) && ra P depth T t) (.ok (t.beq x y))
 | .dd,.dd=> .guard (isSl P T) (.ok aO)
 | .d (.slice t) l,.dd=> .guard (isSl P T) (.si (decide (0 < (l:List t.den).length)) (.ok aV))
 | .dd,.d (.slice t) l=> .guard (isSl P T) (.si (decide (0 < (l:List t.den).length)) (.ok aV))
 | .cM _ _ _ _ _ len,.dd=> .guard (isSl P T) (.si (decide (0 < len)) (.ok aV))
 | .dd,.cM _ _ _ _ _ len=> .guard (isSl P T) (.si (decide (0 < len)) (.ok aV))
 | .jW,.jW=> .guard (isPt P T) (.ok aO)
 | .ptr ..,.jW=> .guard (isPt P T) (.ok aV)
 | .jW,.ptr .. => .guard (isPt P T) (.ok aV)
 | .d (.nL t) x,.jW=> .guard (isPt P T) (.ok (x:Option t.den).isNone)
 | .jW,.d (.nL t) x=> .guard (isPt P T) (.ok (x:Option t.den).isNone)
 | .d (.gR t) x,.jW=> .guard (isPt P T) (.ok (x:Option (Nat×t.den)).isNone)
 | .jW,.d (.gR t) x=> .guard (isPt P T) (.ok (x:Option (Nat×t.den)).isNone)
 | .vB,.vB=> .guard (isFn P T) (.ok aO)
 | .fn ..,.vB=> .guard (isFn P T) (.ok aV)
 | .vB,.fn .. => .guard (isFn P T) (.ok aV)
 |_,_=> .fail
where
 isSl (P:aL) (T:TypeId):Bool:=match P.underlying T with | some (.slice _)=>aO | _=>aV
 isPt (P:aL) (T:TypeId):Bool:=match P.underlying T with | some (.pointer _)=>aO | _=>aV
 isFn (P:aL) (T:TypeId):Bool:=match P.underlying T with | some (.func _ _ _)=>aO | _=>aV
def aBk(P:aL)(T:TypeId)(op:BinOp)(x y:aF):Out aF:=
 match x,y with
 | .d (.int k) a,.d (.int k') b=>atq op k a k' b
 | .d .str a,.d .str b=>awa op a b
 |x,y=>match op with
  | .eql=>(w9 P T x y).bind λb=> .ok (.d .bool b)
  | .neq=>(w9 P T x y).bind λb=> .ok (.d .bool (!b))
  |_=> .fail
def aGk(op:UnOp)(x:aF):Out aF:=
 match op,x with
 | .not,.d .bool b=> .ok (.d .bool (!b))
 | .neg,.d (.int k) n=> .ok (.d (.int k) (k.wrap (0 - n)))
 | .xor,.d (.int k) n=> .ok (.d (.int k) (di .xor k (if k.signed then -1 else k.max) n))
 |_,_=> .fail
def cH(s:ByteArray):List Int:=s.data.toList.map λb=>(b.toNat:Int)
def fC(l:List Int):ByteArray:=⟨(l.map λn=>fm n.toNat).toArray⟩
def AS.aiQ(s:AS)(t:Ty)(v:aF):Out t.den:=s.iN t v
def ar7(P:aL)(s:AS)(obj:Bool)(src dst:TypeId)(x:aF):Out aF:=
 match x,P.underlying dst,P.underlying src with
 | .d (.int _) n,au (.int k),au _=> .ok (.d (.int k) (k.wrap n))
 | .d .str a,au .string,au _=> .ok (.d .str a)
 | .d .str a,au (.slice e),au _=>match P.underlying e with
  |some (.int .u8)=>match obj with | true=> .ok (.sb (cH a)) | false=> .ok (.d (.slice (.int .u8)) (cH a))
  |_=> .fail
 |x,au .string,au (.slice e)=>match P.underlying e with
  |some (.int .u8)=>(s.aiQ (.slice (.int .u8)) x).bind λl=> .ok (.d .str (fC l))
  |_=> .fail
 |_,_,_=> .fail
def ar8(P:aL)(src dst:TypeId)(l:List Int):Out aF:=
 match P.underlying dst,P.underlying src with
 |some (.slice e),au (.slice _)=>match P.underlying e with
  |some (.int .u8)=> .guard (src==dst) (.ok (.d (.slice (.int .u8)) l))
  |_=> .fail
 |_,_=> .fail
def Xg(P:aL)(s:AS)(obj:Bool)(src dst:TypeId)(x:aF):Out aF:=
 match x with
 | .sb l=>ar8 P src dst l
 |x=>ar7 P s obj src dst x
def acY(P:aL)(s:AS)(d:Option Tmp)(src dst:TypeId)(id:Id)(ver len:Nat):Out AS:=
 match s.obj id,P.underlying dst with
 |some (v,aV,.vec _ (.int .u8) l),au (.slice e)=>match P.underlying e with
  |some (.int .u8)=> .guard ((v==ver) && (src==dst)) (.si (decide (0 < len/\len=(l:List Int).length)) (.ok ((s.aY id .dead).put d (.d (.slice (.int .u8)) l))))
  |_=> .fail
 |_,_=> .fail
def Xh(P:aL)(s:AS)(src dst:TypeId)(id:Id)(ver:Nat):Out aF:=
 match s.obj id with
 |some (v,_,.bx e 0 c)=>match P.underlying src,P.underlying dst with
  |some (.pointer t),au .unsafePointer=> .guard ((v==ver) && !(P.cellsOf t==0) && !(c.size==0)) (.ok (.ptr id ver [] 0))
  |some .unsafePointer,au (.pointer u)=> .guard ((v==ver) && !(P.cellsOf u==0) && liesAt P P.depth e (c.size / P.cellsOf e) 0 u 1) (.ok (.ptr id ver [] 0))
  |_,_=> .fail
 |_=> .fail
def aDu(P:aL)(s:AS)(T:TypeId)(op:BinOp)(i:Id)(v:Nat)(j:Id)(w:Nat):Out aF:=
 match s.obj i with
 |some (v',_,_)=> .guard (decide (i=j) && (v==w) && (v==v') && aFs P T) (match op with | .eql=> .ok (.d .bool aO) | .neq=> .ok (.d .bool aV) | _=> .fail)
 |none=> .fail
def af4(P:aL)(s:AS)(d:Option Tmp)(T:TypeId)(id:Id)(ver:Nat)(n:Int):Out AS:=
 match s.obj id,P.underlying T with
 |some (v,aV,.vec e (.int .u8) l),au (.pointer u)=> .guard ((v==ver) && (u==e) && (P.cellsOf e==1))
   (.si (decide (0 < n/\n<=((l:List Int).length:Int))) (.ok ((s.aY id .dead).put d (.d .str (fC ((l:List Int).take n.toNat))))))
 |_,_=> .fail
def asInt:aF->Out Int
 | .d (.int _) n=> .ok n
 |_=> .fail
def bounds(s:AS)(n:Nat)(lo hi:Option bI):Out (Nat×Nat):=
 (match hi with
  |some h=>(asInt (s.ev h)).bind λh=> .si (decide (0<=h/\h<=(n:Int))) (.ok h.toNat)
  |none=> .ok n).bind λh=>
 (match lo with
  |some l=>(asInt (s.ev l)).bind λl=> .si (decide (0<=l/\l<=(h:Int))) (.ok l.toNat)
  |none=> .ok 0).bind λl=> .ok (l,h)
def kz(P:aL)(T:TypeId):Option Nat:=
 match P.underlying T with
 |some (.array _ e)=>match P.cellsOf e with | 0=>aH | z+1=>au (z+1)
 |some (.slice e)=>match P.cellsOf e with | 0=>aH | z+1=>au (z+1)
 |_=>aH
def wD(P:aL)(T:TypeId):Option Nat:=
 match P.underlying T with
 |some (.array n _)=>au n
 |_=>aH
def Fq(P:aL)(s:AS)(T:TypeId)(x:aF)(lo hi:Option bI):Out aF:=
 match x with
 | .d .str a=> .guard (match P.underlying T with | some .string=>aO | _=>aV) ((bounds s a.size lo hi).bind λb=> .ok (.d .str (a.extract b.1 b.2)))
 | .d (.slice t) l=> .guard (match kz P T,wD P T with | some z,aH=>z==t.size | _,_=>aV)
   ((bounds s (l:List t.den).length lo hi).bind λb=> .ok (.d (.slice t) (cut l b.1 (b.2 - b.1))))
 | .dd=> .guard (match kz P T,wD P T with | some _,aH=>aO | _,_=>aV) ((bounds s 0 lo hi).bind λ_=> .ok .dd)
 | .cM id ver p c i len=>(s.row id ver p).bind λr=> .guard (match kz P T,wD P T with | some z,aH=>z==r.2.1.size | _,_=>aV)
   ((bounds s len lo hi).bind λb=> .ok (.cM id ver p (c+b.1*r.2.1.size) (i+b.1) (b.2 - b.1)))
 | .ptr id ver p n=>(s.row id ver p).bind λr=> .guard (match kz P T,wD P T with | some z,au _=>z==r.2.1.size | _,_=>aV)
   (.si (decide (wD P T=au r.2.2.length/\r.1=n)) ((bounds s ((wD P T).getD 0) lo hi).bind λb=> .ok (.cM id ver (p++ [.arr]) (n+b.1*r.2.1.size) b.1 (b.2 - b.1))))
 | .eG (.arr n t) l=> .guard (match kz P T,wD P T with | some z,au m=>(z==t.size) && (m==n) | _,_=>aV)
   ((bounds s n lo hi).bind λb=> .ok (.d (.slice t) (cut l b.1 (b.2 - b.1))))
 |_=> .fail
def ayC:aF->Int
 | .d (.slice t) l=>((l:List t.den).length:Int)
 | .cM _ _ _ _ _ len=>(len:Int)
 | .dd=>0
 |_=> -1
def adm:Option bI->aF->aF
 |some _,.cM id ver p c i len=> .cM id ver (p++ [.arr]) c i len
 |_,v=>v
def LD(P:aL)(s:AS)(T:TypeId)(x:aF)(lo:Option bI)(h m:bI):Out aF:=(asInt (s.ev h)).bind λhv=>(asInt (s.ev m)).bind λmv=> .si (decide (0<=hv/\hv<=mv/\mv<=ayC x)) ((Fq P s T x lo (au h)).bind λv=> .ok (adm (au m) v))
def qI(P:aL)(s:AS)(T:TypeId)(x:aF)(i:Int):Out aF:=
 match x with
 | .d (.slice t) l=> .guard (match kz P T,wD P T with | some z,aH=>z==t.size | _,_=>aV)
   (.si (decide (0<=i/\i < ((l:List t.den).length:Int))) (.ok (.eG t (nth t l i.toNat))))
 | .eG (.arr n t) l=> .guard (match kz P T,wD P T with | some z,au m=>(z==t.size) && (m==n) | _,_=>aV)
   (.si (decide (0<=i/\i < (n:Int))) (.ok (.eG t (nth t l i.toNat))))
 | .cM id ver p c j len=>(s.row id ver p).bind λr=> .guard (match kz P T,wD P T with | some z,aH=>z==r.2.1.size | _,_=>aV)
   (.si (decide (0<=i/\i < (len:Int))) (.ok (.ptr id ver (p++ [.idx (j+i.toNat)]) (c+i.toNat*r.2.1.size))))
 | .ptr id ver p n=> .guard (match kz P T,wD P T with | some _,au _=>aO | _,_=>aV)
   (.si (decide (0<=i/\i < (((wD P T).getD 0:Nat):Int))) (.ok (.ptr id ver (p++ [.idx i.toNat]) (n+i.toNat*(kz P T).getD 0))))
 |_=> .fail
def fieldInfo(P:aL)(T:TypeId)(f:Nat):Option (Nat×TypeId):=
 match P.underlying T with
 |some (.struct fs)=>match fs[f]? with | some x=>au (x.offset,x.type) | none=>aH
 |_=>aH
def partOf:aF->Nat->Option (Nat×aF)
 | .d (.pair a _) x,0=>au (0,.d a x.1)
 | .d (.pair a b) x,n+1=>match partOf (.d b x.2) n with | some (o,v)=>au (a.size+o,v) | none=>aH
 | .pr a _,0=>au (0,a)
 | .pr a b,n+1=>match partOf b n with | some (o,v)=>au (a.size+o,v) | none=>aH
 |_,_=>aH
def Cj(P:aL)(T:TypeId)(x:aF)(f:Nat):Out aF:=
 match fieldInfo P T f with
 |some (o,ft)=> .guard (!(P.cellsOf ft==0)) (match x with
  | .ptr id ver p n=> .ok (.ptr id ver (p++nf f) (n+o))
  | .eG t x=>match partOf (.d t x) f with
   |some (o',.d t' y)=> .guard (o==o') (.ok (.eG t' y))
   |_=> .fail
  | .d (.nL t) x=> .get (x:Option t.den) λx=>match partOf (.d t x) f with
   |some (o',.d t' y)=> .guard (o==o') (.ok (.eG t' y))
   |_=> .fail
  | .d (.gR t) x=> .get (x:Option (Nat×t.den)) λx=>match partOf (.d t x.2) f with
   |some (o',.d t' y)=> .guard (o==o') (.ok (.eG t' y))
   |_=> .fail
  |_=> .fail)
 |none=> .fail
def ZU(P:aL)(T:TypeId)(x:aF)(f:Nat):Out aF:=
 match fieldInfo P T f,partOf x f with
 |some (o,ft),au (o',v)=> .guard ((o==o') && fits P ft v) (.ok v)
 |_,_=> .fail
def aaf(P:aL)(T:TypeId)(x:aF)(i:Int):Out aF:=
 match x,P.underlying T with
 | .d (.arr n t) l,au (.array m e)=> .guard ((n==m) && fits P e (.d t t.zero)) (.si (decide (0<=i/\i < (n:Int))) (.ok (.d t (nth t l i.toNat))))
 | .d .str a,au .string=> .si (decide (0<=i/\i < (a.size:Int))) (.ok (.d (.int .u8) ((a.data.toList.getD i.toNat 0).toNat:Int)))
 |_,_=> .fail
def aCG:aF->Out aF
 | .d (.fX t) l=> .si (l:Option (List t.den)).isNone (.ok .dd)
 |v=> .ok v
def Kp(P:aL)(s:AS)(T:TypeId)(x:aF):Out aF:=
 match x with
 | .ptr id ver p n=>match s.obj id with
  |some (v,_,c)=> .guard (v==ver) ((loc c.strip p).bind λr=> .guard (fits P T r.2) (.si (decide (r.1=n)) (aCG r.2)))
  |none=> .fail
 | .eG t y=> .guard (fits P T (.d t y)) (.ok (.d t y))
 | .d (.nL t) y=> .get (y:Option t.den) λy=> .guard (fits P T (.d t y)) (.ok (.d t y))
 | .d (.gR t) y=> .get (y:Option (Nat×t.den)) λy=> .guard (fits P T (.d t y.2)) (.ok (.d t y.2))
 |_=> .fail
def Ft(P:aL)(s:AS)(T:TypeId)(x v:aF):Out AS:=
 match x with
 | .ptr id ver p n=>match s.obj id with
  |some (ve,fr,c)=> .guard ((ve==ver) && !fr && fits P T v) ((loc c.strip p).bind λr=> .guard (fits P T r.2) (.si (decide (r.1=n)) ((wF c.strip p v).bind λc'=> .ok (s.aY id (.obj ve fr (c.wrap c'))))))
  |none=> .fail
 |_=> .fail
def ayB(P:aL)(T:TypeId)(x:aF):Out aF:=
 match P.underlying T,x with
 |some .string,.d .str a=> .ok (.d (.int .i64) (a.size:Int))
 |some (.slice _),.d (.slice t) l=> .ok (.d (.int .i64) ((l:List t.den).length:Int))
 |some (.slice _),.dd=> .ok (.d (.int .i64) (0:Int))
 |some (.slice _),.cM _ _ _ _ _ len=> .ok (.d (.int .i64) (len:Int))
 |some (.array n _),_=> .ok (.d (.int .i64) (n:Int))
 |_,_=> .fail
def EH(P:aL)(s:AS)(t:Ty)(X:TypeId)(x:aF):Out (List t.den):=
 match x with
 | .d .str a=>match P.underlying X with
  |some .string=>Out.opt (sh (.slice (.int .u8)) (.slice t) (cH a))
  |_=> .fail
 |x=>match P.underlying X with
  |some (.slice _)=>s.aiQ (.slice t) x
  |_=> .fail
def dI(n b:Nat):Bool:=decide (n*b<=140737488355328/\n<=9223372036854775807)
def Ch(P:aL)(nl:Bool)(T:TypeId):Option (TypeId×Ty×Nat):=
 match P.underlying T with
 |some (.slice e)=>match Vb P nl depth e with
  |some t=>match(P.cellsOf e==t.size) && !(t.size==0) && ab2 P e (.d t t.zero) with | true=>au (e,t,P.bytesOf e) | false=>aH
  |none=>aH
 |_=>aH
def Qr(P:aL)(T:TypeId):Option (TypeId×Ty×Nat):=Ch P aV T
def ZM(P:aL)(T:TypeId):Option (TypeId×Ty×Nat):=
 match Nat.ble 100000 T with
 |true=>Ch P aO (T - 100000)
 |false=>Ch P aV T
def adI(P:aL)(s:AS)(dst:Option Tmp)(T X:TypeId)(n:Int):Out AS:=
 match Qr P T,dst,P.underlying X with
 |some (e,t,b),au q,au (.int _)=> .guard (s.dW q) (.si (decide (0 < n) && dI n.toNat b)
   (.ok ((s.born q [.obj 0 aV (.vec e t (ai n.toNat t.zero))]).put dst (.cM (.new q 0) 0 [] 0 0 n.toNat))))
 |_,_,_=> .fail
def aov(mx:Bool):List aF->Out aF
 |[.d (.int k) x,.d (.int k') y]=> .guard (decide (k=k')) (.ok (.d (.int k) (match mx with | true=>(if x < y then y else x) | false=>(if y < x then y else x))))
 |[.d (.int k) x,.d (.int k') y,.d (.int k2) z]=> .guard (decide (k=k') && decide (k=k2)) (.ok (.d (.int k) (match mx with | true=>(if(if x < y then y else x) < z then z else(if x < y then y else x)) | false=>(if z < (if y < x then y else x) then z else(if y < x then y else x)))))
 |_=> .fail
def wJ(P:aL)(s:AS)(nl dt:Bool)(dst:Option Tmp)(T X:TypeId)(x y:aF):Out AS:=
 match Ch P nl T,dst with
 |some (e,t,b),au q=>(EH P s t X y).bind λm=>
  match x with
  | .dd=>match dt with
   |true=> .si (dI m.length b && decide (0 < m.length)) (.ok (s.put dst (.d (.fX t) (au m))))
   |false=> .guard (s.dW q) (.si (dI m.length b) (.ok ((s.born q [.obj 0 aV (.vec e t m)]).put dst (.cM (.new q 0) 0 [] 0 0 m.length))))
  | .cM id ver [] 0 0 len=>match s.obj id with
   |some (v,fr,.vec e' t' l)=> .guard ((v==ver) && (e==e')) ((Out.opt (sh (.slice t') (.slice t) l)).bind λl=>
     .si (decide (len<=l.length)) <| .si ((!fr) || decide (len=l.length)) (.si (dI (len+m.length) b)
      (.ok ((s.aY id (.obj (v+1) fr (.vec e t (l.take len++m)))).put dst (.cM id (v+1) [] 0 0 (len+m.length))))))
   |_=> .fail
  |_=> .fail
 |_,_=> .fail
def Rp(P:aL)(s:AS)(dst:Option Tmp)(T X:TypeId)(x y:aF):Out AS:=
 match Qr P T,x with
 |some (_,t,_),.cM id ver [.arr] 0 0 len=>(EH P s t X y).bind λm=>match s.obj id with
  |some (ve,aV,.d (.arr n t') l)=> .guard ((ve==ver) && (len==n)) ((Out.opt (sh (.slice t') (.slice t) l)).bind λl=> .si (decide (m.length<=n))
    (.ok ((s.aY id (.obj ve aV (.d (.arr n t) (m++(l:List t.den).drop m.length)))).put dst (.d (.int .i64) (m.length:Int)))))
  |_=> .fail
 |_,_=> .fail
def jm(t:Ty)(s:AS):List (Nat×bI)->List t.den->Out (List t.den×List Id)
 |[],l=> .ok (l,[])
 | (i,x)::ps,l=> .guard (decide (i < l.length)) ((s.iN t (s.ev x)).bind λy=>(jm t s ps (l.set i y)).bind λr=> .ok (r.1,(s.ev x).shared++r.2))
def py(P:aL)(fs:Array Field)(s:AS):List (Nat×bI)->aF->Out aF
 |[],v=> .ok v
 | (i,x)::ps,v=>match fs[i]?,partOf v i with
  |some f,au (o,bF)=> .guard ((f.offset==o) && fits P f.type bF && fits P f.type (s.ev x)) ((wF v (nf i) (s.ev x)).bind λv'=>py P fs s ps v')
  |_,_=> .fail
def D4(P:aL)(s:AS)(dst:Option Tmp)(T:TypeId)(parts:List (Nat×bI)):Out AS:=
 match P.underlying T with
 |some (.struct fs)=>match zeroOf P depth T with
  |some z=> .guard (ab2 P T z && z.agg && fs.toList.all λf=>(P.info? f.type).isSome)
    ((py P fs s parts z).bind λv=> .ok (s.put dst v))
  |none=> .fail
 |some (.array n e)=>match agl P depth e with
  |some t=> .guard ((P.cellsOf e==t.size) && ab2 P T (.d (.arr n t) (ai n t.zero))) ((jm t s parts (ai n t.zero)).bind λr=> .ok ((s.bt r.2).put dst (.d (.arr n t) r.1)))
  |none=> .fail
 |_=> .fail
def lV(P:aL)(s:AS)(nl obj:Bool)(dst:Option Tmp)(T:TypeId)(n:Nat)(parts:List (Nat×bI)):Out AS:=
 match Ch P nl T,dst with
 |some (e,t,_),au q=> .guard (decide (n*t.size<=16777216)) ((jm t s parts (ai n t.zero)).bind λr=>
   match obj with
   |true=> .guard (s.dW q) (.ok (((s.bt r.2).born q [.obj 0 aV (.vec e t r.1)]).put dst (.cM (.new q 0) 0 [] 0 0 r.1.length)))
   |false=> .ok ((s.bt r.2).put dst (.d (.slice t) r.1)))
 |_,_=> .fail
def qL(P:aL)(s:AS)(dst:Option Tmp)(T:TypeId)(len cap:Int):Out AS:=
 match Qr P T,dst with
 |some (e,t,b),au q=> .guard (s.dW q) (.si (decide (0<=len/\len<=cap) && dI cap.toNat b)
   (.ok ((s.born q [.obj 0 aV (.vec e t (ai len.toNat t.zero))]).put dst (.cM (.new q 0) 0 [] 0 0 len.toNat))))
 |_,_=> .fail
def azG(P:aL)(T:TypeId):Bool:=
 match P.underlying T with
 |some (.struct fs)=>fs.toList.any λf=>match P.underlying f.type with | some (.pointer u)=>decide (u=T) | _=>aV
 |_=>aV
def boxed(P:aL)(T:TypeId)(z:aF):aF:=match azG P T with | true=> .bx T 0 z | false=>z
def aBm(dt:Bool)(t:Ty)(x:t.den):aF:=match dt with | true=> .d (.nL t) (au x) | false=> .eG t x
def acF(P:aL)(s:AS)(obj dt:Bool)(dst:Option Tmp)(T:TypeId)(v:aF):Out AS:=
 match dst with
 |some q=>match obj with
  |true=> .guard (s.dW q && fits P T v) (.ok ((s.born q [.obj 0 aV v]).put dst (.ptr (.new q 0) 0 [] 0)))
  |false=>match agl P depth T with
   |some t=> .guard (fits P T (.d t t.zero)) ((s.iN t v).bind λx=> .ok ((s.bt v.shared).put dst (aBm dt t x)))
   |none=> .fail
 |none=> .fail
def IS(P:aL)(s:AS)(dst:Option Tmp)(T:TypeId)(x:aF):Out AS:=
 match P.underlying T with
 |some (.array n e)=>match agl P depth e with
  |some t=> .guard ((P.cellsOf e==t.size) && !(n==0) && !(t.size==0)) ((s.iN (.slice t) x).bind λl=> .si (decide (n<=(l:List t.den).length)) (.ok ((s.bt x.shared).put dst (.eG (.arr n t) (l.take n)))))
  |none=> .fail
 |_=> .fail
def qC(s:AS):List bI->aF
 |[]=> .nil
 |x::xs=> .cons (s.ev x) (qC s xs)
def yk:aF->Bool
 | .cons a b=>a.eJ && yk b
 | .nil=>aO
 |_=>aV
def alN(c a b:aF):Out aF:=
 match c with
 | .d .bool c=>match a,b with
  | .d .bool x,.d .bool y=> .ok (.d .bool (bif c then x else y))
  |a,b=> .br c (.ok a) (.ok b)
 |_=> .fail
def isObj(bM:List Nat):Option Tmp->Bool
 |some q=>bM.any λx=>decide (x=q)
 |none=>aV
def an8(bM:List Nat)(dst:Option Tmp):Bool:=isObj bM (dst.map (· +100000))
def aic(bM:List Nat)(dst:Option Tmp):Bool:=isObj bM (dst.map (· +200000))
def pR:(t:Ty)->aF->Out t.den
 |t,.d t' x=>Out.opt (sh t' t x)
 | .slice _,.dd=> .ok []
 | .pair a b,.pr x y=>(pR a x).bind λx=>(pR b y).bind λy=> .ok (x,y)
 |_,_=> .fail
def mapOf(P:aL)(T:TypeId):Option (TypeId×TypeId×Ty×Ty):=
 match P.underlying T with
 |some (.map K V)=>match agl P depth K,agl P depth V with
  |some kt,au vt=>match ra P depth K kt && ab2 P V (.d vt vt.zero) with | true=>au (K,V,kt,vt) | false=>aH
  |_,_=>aH
 |_=>aH
def iU{β:Type}(kt:Ty)(x:kt.den):List (kt.den×β)->Option Nat
 |[]=>aH
 |p::l=>match kt.beq x p.1 with | true=>au 0 | false=>(iU kt x l).map (· +1)
def cE{β:Type}(kt:Ty)(x:kt.den)(l:List (kt.den×β)):Option β:=(iU kt x l).bind λi=>(l[i]?).map (·.2)
def eM{β:Type}(kt:Ty)(x:kt.den)(v:β)(l:List (kt.den×β)):List (kt.den×β):=
 match iU kt x l with | some i=>l.set i (x,v) | none=>l++ [(x,v)]
def lK{β:Type}(kt:Ty)(x:kt.den)(l:List (kt.den×β)):List (kt.den×β):=
 match iU kt x l with | some i=>l.eraseIdx i | none=>l
def ahf(k v k' v':Ty)(l:List (k.den×v.den)):Option (List (k'.den×v'.den)):=if h:k=k'/\v=v' then au (h.1▸h.2▸l) else aH
def AS.pQ(s:AS)(id:Id)(ver:Nat)(kt vt:Ty):Out (List (kt.den×vt.den)):=
 match s.obj id with
 |some (v,_,.mp k' v' l)=> .guard (v==ver) (Out.opt (ahf k' v' kt vt l))
 |_=> .fail
def AS.sU(s:AS)(id:Id):Bool:=match s.obj id with | some (_,fr,_)=> !fr | none=>aV
def aAL(vt:Ty)(ok:Bool)(r:Option vt.den):aF:=
 match ok with
 |true=> .cons (.d vt (r.getD vt.zero)) (.cons (.d .bool r.isSome) .nil)
 |false=> .d vt (r.getD vt.zero)
def EF(P:aL)(s:AS)(dst:Option Tmp)(T:TypeId):Out AS:=
 match mapOf P T,dst with
 |some (_,_,kt,vt),au q=> .guard (s.dW q) (.ok ((s.born q [.obj 0 aV (.mp kt vt [])]).put dst (.dM (.new q 0) 0)))
 |_,_=> .fail
def Cp(P:aL)(s:AS)(T:TypeId)(m k:aF)(ok:Bool):Out aF:=
 match mapOf P T,m with
 |some (_,_,kt,vt),.dM id ver=>(s.pQ id ver kt vt).bind λl=>(pR kt k).bind λk=> .ok (aAL vt ok (cE kt k l))
 |_,_=> .fail
def Cv(P:aL)(s:AS)(T:TypeId)(m k v:aF):Out AS:=
 match mapOf P T,m with
 |some (_,_,kt,vt),.dM id ver=>(s.pQ id ver kt vt).bind λl=>(pR kt k).bind λk=>(pR vt v).bind λv=> .guard (s.sU id) (.ok (s.aY id (.obj ver aV (.mp kt vt (eM kt k v l)))))
 |_,_=> .fail
def Cu(P:aL)(s:AS)(T:TypeId)(m k:aF):Out AS:=
 match mapOf P T,m with
 |some (_,_,kt,vt),.dM id ver=>(s.pQ id ver kt vt).bind λl=>(pR kt k).bind λk=> .guard (s.sU id) (.ok (s.aY id (.obj ver aV (.mp kt vt (lK kt k l)))))
 |_,_=> .fail
def AS.aem(s:AS)(id:Id)(ver:Nat):Bool:=match s.obj id with | some (v,aO,.mp ..)=>v==ver | _=>aV
def dE.ats(q:Id):dE->Bool
 | .obj _ _ (.qa q' ver _ _ _ _)=>decide (q'=q) && !(ver==0)
 |_=>aV
def AS.T5(s:AS)(q:Id):Bool:=s.b8.any (dE.ats q) || s.news.any λes=>es.any (dE.ats q)
def tJ(kt vt:Ty)(l:List (kt.den×vt.den))(j:Nat):kt.den×vt.den:=l.getD j (kt.zero,vt.zero)
def Nq(P:aL)(s:AS)(dst:Option Tmp)(T:TypeId)(m:aF):Out AS:=
 match mapOf P T,m,dst with
 |some (_,_,kt,vt),.dM id ver,au q=>(s.pQ id ver kt vt).bind λl=> .guard (s.sU id && s.dW q)
   (.ok (((s.aY id (.obj ver aO (.mp kt vt l))).born q [.obj 0 aV (.qa id (ver+1) kt vt l aH)]).put dst (.ptr (.new q 0) 0 [] 0)))
 |_,_,_=> .fail
structure amk where
 i:Id
 v:Nat
 fr:Bool
 q:Id
 vr:Nat
 kt:Ty
 vt:Ty
 rest:List (kt.den×vt.den)
 cur:Option (kt.den×vt.den)
def AS.atr(s:AS)(x:aF):Option amk:=
 match x with
 | .ptr i ver [] 0=>match s.obj i with
  |some (v,fr,.qa q (vr+1) kt vt rest cur)=>match v==ver,s.aem q vr with
   |true,aO=>au ⟨i,v,fr,q,vr,kt,vt,rest,cur⟩
   |_,_=>aH
  |_=>aH
 |_=>aH
def ahB(s:AS)(x:aF):Out aF:=
 match s.atr x with
 |some ⟨_,_,_,_,_,kt,vt,_,au c⟩=> .ok (.cons (.d kt c.1) (.cons (.d vt c.2) .nil))
 |_=> .fail
def AS.drawn(s:AS)(t:amk)(dst:Option Tmp)(j:Nat):AS:=(s.aY t.i (.obj t.v t.fr (.qa t.q (t.vr+1) t.kt t.vt (t.rest.eraseIdx j) (au (tJ t.kt t.vt t.rest j))))).put dst (.cons (.d .bool aO) (.cons (.d t.kt (tJ t.kt t.vt t.rest j).1) (.cons (.d t.vt (tJ t.kt t.vt t.rest j).2) .nil)))
def AS.unlock(s:AS)(id:Id):AS:=match s.obj id with | some (v,_,c)=>s.aY id (.obj v aV c) | none=>s
def AS.ay3(s:AS)(t:amk)(dst:Option Tmp):Option AS:=
 match(s.aY t.i (.obj t.v t.fr (.qa t.q 0 t.kt t.vt [] aH))).T5 t.q with
 |false=>au (((s.aY t.i (.obj t.v t.fr (.qa t.q 0 t.kt t.vt [] aH))).unlock t.q).put dst (.cons (.d .bool aV) .nil))
 |true=>aH
open Classical in
def asw{R:Type}(n:Nat)(k:Nat->Option R):Option R:=if h:∃r,0 < n/\∀j,j < n->k j=au r then au h.choose else aH
open Classical in
def P2{X R:Type}(S:X->Prop)(k:X->Option R):Option R:=if h:∃r,(∃x,S x)/\∀x,S x->k x=au r then au h.choose else aH
def aua{R:Type}(s:AS)(dst:Option Tmp)(t:amk)(k:AS->Option R):Option R:=
 aP (decide (0 < t.rest.length)) (asw t.rest.length λj=>k (s.drawn t dst j)) (match s.ay3 t dst with | some s'=>k s' | none=>aH)
def AS.alj(s:AS)(ids:List Id):Bool:=ids.all λid=>(s.obj id).isSome && s.M0 id
def AS.asF{R:Type}(s:AS)(en:Entry)(dst:Option Tmp)(ids:List Id)(vs:List aF)(k:AS->Option R):Option R:=P2 (en.set (vs.map (aF.iL (s.vN ids))) (ids.map (s.lZ ids))) λx=>((en.sp x).bind λx=>s.back ids dst (en.out (vs.map (aF.iL (s.vN ids))) (ids.map (s.lZ ids)) x)).run k
def AS.Oc{R:Type}(s:AS)(en:Entry)(dst:Option Tmp)(vs:List aF)(k:AS->Option R):Option R:=((s.conv en.params vs).bind λr=> .guard ((s.bt r.2).alj ((s.bt r.2).XV r.1)) (.ok r)).run λr=>(s.bt r.2).asF en dst ((s.bt r.2).XV r.1) r.1 k
def AS.aAm{R:Type}(s:AS)(en:Entry)(dst:Option Tmp)(vs:List aF)(k:AS->Option R):Option R:=
 match en.rel with | true=>s.Oc en dst vs k | false=>(s.call en dst vs).run k
def yB:Nat:=4294967296
def oZ(P:aL)(Γ:qh)(bM:List Nat)(o:Oper)(s:AS):Out AS:=
 match o.op with
 | .move x=> .ok (s.put o.dst (s.ev x))
 | .assign x=> .ok (s.put o.dst (s.ev x))
 | .pick c a b=>(alN (s.ev c) (s.ev a) (s.ev b)).bind λv=> .ok (s.put o.dst v)
 | .alloc T=>match zeroOf P depth T,o.dst with
  |some z,au q=> .guard (s.dW q && ab2 P T z) (.ok ((s.born q [.obj 0 aV (boxed P T z)]).put o.dst (.ptr (.new q 0) 0 [] 0)))
  |_,_=> .fail
 | .box T x=>acF P s (isObj bM o.dst) (aic bM o.dst) o.dst T (s.ev x)
 | .build T parts=>D4 P s o.dst T parts.toList
 | .buildSlice T n parts=>lV P s (an8 bM o.dst) (isObj bM o.dst) o.dst T n parts.toList
 | .load T x=>(Kp P s T (s.ev x)).bind λv=> .ok (s.put o.dst v)
 | .store T x v=>(Ft P s T (s.ev x) (s.ev v)).bind λs'=> .ok (s'.put o.dst .undef)
 | .nilCheck x=>match s.ev x with
  | .ptr id v p n=> .ok (s.put o.dst (.ptr id v p n))
  | .eG t y=> .ok (s.put o.dst (.eG t y))
  | .d (.nL t) y=> .get (y:Option t.den) λy=> .ok (s.put o.dst (.eG t y))
  | .d (.gR t) y=> .get (y:Option (Nat×t.den)) λy=> .ok (s.put o.dst (.eG t y.2))
  | .fn f c=> .ok (s.put o.dst (.fn f c))
  |_=> .fail
 | .binOp op T x y _=>match s.ev x,s.ev y with
  | .ptr i v [] 0,.ptr j w [] 0=>(aDu P s T op i v j w).bind λv=> .ok (s.put o.dst v)
  |_,_=>(aBk P T op (s.ev x) (s.ev y)).bind λv=> .ok (s.put o.dst v)
 | .unOp op _ x=>(aGk op (s.ev x)).bind λv=> .ok (s.put o.dst v)
 | .convert src dst x=>match src==dst,s.ev x with
  |true,.cM id ver [] 0 0 len=>acY P s o.dst src dst id ver len
  |_,.ptr id ver [] 0=>(Xh P s src dst id ver).bind λv=> .ok (s.put o.dst v)
  |_,_=>(Xg P s (isObj bM o.dst) src dst (s.ev x)).bind λv=> .ok (s.put o.dst v)
 | .sliceToArrayPointer T x=>IS P s o.dst T (s.ev x)
 | .makeFunc (.func f) first caps=> .guard (first.isEmpty && yk (qC s caps.toList)) (.ok (s.put o.dst (.fn f (qC s caps.toList))))
 | .makeSlice T l c=>(asInt (s.ev l)).bind λl=>(asInt (s.ev c)).bind λc=>qL P s o.dst T l c
 | .slice T x lo hi aH=>(Fq P s T (s.ev x) lo hi).bind λv=> .ok (s.put o.dst v)
 | .slice T x lo (au h) (au m)=>(LD P s T (s.ev x) lo h m).bind λv=> .ok (s.put o.dst v)
 | .fieldAddr T x f=>(Cj P T (s.ev x) f).bind λv=> .ok (s.put o.dst v)
 | .field T x f=>(ZU P T (s.ev x) f).bind λv=> .ok (s.put o.dst v)
 | .indexAddr T x i=>(asInt (s.ev i)).bind λi=>(qI P s T (s.ev x) i).bind λv=> .ok (s.put o.dst v)
 | .index T x i=>(asInt (s.ev i)).bind λi=>(aaf P T (s.ev x) i).bind λv=> .ok (s.put o.dst v)
 | .extract x i=>(Out.opt ((s.ev x).list[i]?)).bind λv=> .ok (s.put o.dst v)
 | .makeMap T aH=>EF P s o.dst T
 | .lookup T x i ok=>(Cp P s T (s.ev x) (s.ev i) ok).bind λv=> .ok (s.put o.dst v)
 | .mapUpdate T m k x=>(Cv P s T (s.ev m) (s.ev k) (s.ev x)).bind λs'=> .ok (s'.put o.dst .undef)
 | .range T m=>Nq P s o.dst T (s.ev m)
 | .call c=>match c.callee with
  | .builtin .delete=>match c.args.toList,c.argTypes.toList with
   |[m,k],[T,_]=>(Cu P s T (s.ev m) (s.ev k)).bind λs'=> .ok (s'.put o.dst .nil)
   |_,_=> .fail
  | .builtin .copy=>match c.args.toList,c.argTypes.toList with
   |[x,y],[T,X]=>Rp P s o.dst T X (s.ev x) (s.ev y)
   |_,_=> .fail
  | .builtin .len=>match c.args.toList,c.argTypes.toList with
   |[x],[T]=>(ayB P T (s.ev x)).bind λv=> .ok (s.put o.dst v)
   |_,_=> .fail
  | .builtin .append=>match c.args.toList,c.argTypes.toList with
   |[x,y],[T,X]=>match s.ev x,s.ev y with
    | .dd,.d (.int _) n=>adI P s o.dst T X n
    |_,_=>wJ P s (an8 bM o.dst) (aic bM o.dst) o.dst T X (s.ev x) (s.ev y)
   |_,_=> .fail
  | .builtin .cap=>match c.args.toList,c.argTypes.toList with
   |[x],[T]=>match s.ev x,P.underlying T with
    | .dd,au (.slice _)=> .ok (s.put o.dst (.d (.int .i64) (0:Int)))
    |_,_=> .fail
   |_,_=> .fail
  | .builtin .max=>(aov aO (c.args.toList.map s.ev)).bind λv=> .ok (s.put o.dst v)
  | .builtin .min=>(aov aV (c.args.toList.map s.ev)).bind λv=> .ok (s.put o.dst v)
  | .builtin .unsafeSliceData=>match c.args.toList with
   |[x]=>match s.ev x with
    | .cM id ver [] 0 0 len=> .si (decide (0 < len)) (.ok (s.put o.dst (.ptr id ver [.idx 0] 0)))
    |_=> .fail
   |_=> .fail
  | .builtin .unsafeString=>match c.args.toList,c.argTypes.toList with
   |[x,y],[T,_]=>match s.ev x,s.ev y with
    | .ptr id ver [.idx 0] 0,.d (.int .i64) n=>af4 P s o.dst T id ver n
    |_,_=> .fail
   |_,_=> .fail
  | .value f=>match s.ev f with
   | .fn f caps=>match Γ f (c.args.toList.map s.ev++caps.list) with
    |some en=> .guard (Nat.blt f yB) (s.call en o.dst (c.args.toList.map s.ev++caps.list))
    |none=> .fail
   |_=> .fail
  |_=> .fail
 |_=> .fail
def QG(xs:Array bI):List Nat:=xs.toList.filterMap λ | .tmp t=>au t | _=>aH
def MN(ops:Array Oper)(o:Oper):List Nat:=
 match o.guard with
 |some (j,_)=>match(ops[j]?).bind (·.dst) with | some t=> [t] | none=> []
 |none=> []
def as3{R:Type}(P:aL)(Γ:qh)(bM:List Nat)(ops:Array Oper)(o:Oper)(s:AS)(k:AS->Option R):Option R:=
 match o.guard with
 |none=>(oZ P Γ bM o s).run k
 |some (j,want)=>match(ops[j]?).bind (·.dst) with
  |some q=>match s.slot q with
   | .d .bool b=>match want with
    |true=>aP b ((oZ P Γ bM o (s.put (au q) (.d .bool aO))).run k) (k ((s.put (au q) (.d .bool aV)).put o.dst .nil))
    |false=>aP b (k ((s.put (au q) (.d .bool aO)).put o.dst .nil)) ((oZ P Γ bM o (s.put (au q) (.d .bool aV))).run k)
   | .nil=>k (s.put o.dst .nil)
   |_=>aH
  |none=>aH
def Tj(s:AS)(x y:bI):Option Nat:=
 match s.ev x,s.ev y with
 | .d (.slice t) l,.dd=>au (l:List t.den).length
 | .dd,.d (.slice t) l=>au (l:List t.den).length
 | .cM _ _ _ _ _ len,.dd=>au len
 | .dd,.cM _ _ _ _ _ len=>au len
 |_,_=>aH
open Classical in
def nd{R:Type}(x y:Option R):Option R:=if x=y then x else aH
def PB:Code->List (Array Tmp×Code×Code)
 | .seq a b=>PB a++PB b
 | .cond _ a b=>PB a++PB b
 | .block _ b=>PB b
 | .scope b=>PB b
 | .loop b=>PB b
 | .rangeFunc _ ps as b=> [(ps,as,b)]
 |_=> []
def aHK(fn:Func)(i y:Nat):tm:=match fn.body with
 |some c=>match(PB c)[i]? with
  |some x=>⟨y,x.1,x.2.1,x.2.2⟩
  |none=>⟨y,#[],.skip,.skip⟩
 |none=>⟨y,#[],.skip,.skip⟩
def CN(P:aL)(y:Nat):tm:=match P.funcs[y%yB / 16]? with
 |some fn=>aHK fn (y%16) y
 |none=>⟨y,#[],.skip,.skip⟩
open Classical in
def same{R:Type}(c c':tm)(x:Option R):Option R:=if c=c' then x else aH
def AS.yielded(s:AS)(F:aF)(n:Nat):Option (Id×Nat×tm×aF):=
 match F with
 | .yl id ver=>match s.obj id with
  |some (v,aV,.uN c f 0)=>match v==ver && n==c.ps.size && Nat.ble yB c.y with
   |true=>au (id,ver,c,f)
   |false=>aH
  |_=>aH
 |_=>aH
def alZ(Γ:qh)(F:aF)(vs:List aF):Option (Entry×List aF):=
 match F with
 | .fn f caps=>match Γ f (vs++caps.list) with
  |some en=>match en.rel && Nat.blt f yB with | true=>au (en,vs++caps.list) | false=>aH
  |none=>aH
 |_=>aH
def ax0{R:Type}(P:aL)(Γ:qh)(bM:List Nat)(ops:Array Oper)(o:Oper)(s:AS)(k:AS->Option R):Option R:=
 match o.guard,o.op with
 |none,.binOp .eql T x y _=>match Tj s x y,w9.isSl P T with
  |some n,aO=>aP (decide (0 < n)) (k (s.put o.dst (.d .bool aV))) (nd (k (s.put o.dst (.d .bool aO))) (k (s.put o.dst (.d .bool aV))))
  |_,_=>as3 P Γ bM ops o s k
 |none,.binOp .neq T x y _=>match Tj s x y,w9.isSl P T with
  |some n,aO=>aP (decide (0 < n)) (k (s.put o.dst (.d .bool aO))) (nd (k (s.put o.dst (.d .bool aO))) (k (s.put o.dst (.d .bool aV))))
  |_,_=>as3 P Γ bM ops o s k
 |none,.range T m=>(Nq P s o.dst T (s.ev m)).run k
 |none,.entry x=>((ahB s (s.ev x)).bind λv=> .ok (s.put o.dst v)).run k
 |none,.next x aV=>match s.atr (s.ev x) with
  |some t=>aua s o.dst t k
  |none=>aH
 |none,.call c=>match c.callee with
  | .value F=>match s.yielded (s.ev F) c.args.size with
   |some (id,ver,rc,f)=>match Γ rc.y (.yl id ver::(c.args.toList.map s.ev++f.list)) with
    |some en=>same rc (CN P rc.y) ((s.call en o.dst (.yl id ver::(c.args.toList.map s.ev++f.list))).run k)
    |none=>aH
   |none=>match alZ Γ (s.ev F) (c.args.toList.map s.ev) with
    |some (en,vs)=>s.Oc en o.dst vs k
    |none=>as3 P Γ bM ops o s k
  |_=>as3 P Γ bM ops o s k
 |some (j,want),.call c=>match c.callee with
  | .value F=>match alZ Γ (s.ev F) (c.args.toList.map s.ev),(ops[j]?).bind (·.dst) with
   |some (en,vs),au q=>match s.slot q with
    | .d .bool b=>match want with
     |true=>aP b ((s.put (au q) (.d .bool aO)).Oc en o.dst vs k) (k ((s.put (au q) (.d .bool aV)).put o.dst .nil))
     |false=>aP b (k ((s.put (au q) (.d .bool aO)).put o.dst .nil)) ((s.put (au q) (.d .bool aV)).Oc en o.dst vs k)
    | .nil=>k (s.put o.dst .nil)
    |_=>aH
   |_,_=>as3 P Γ bM ops o s k
  |_=>as3 P Γ bM ops o s k
 |_,_=>as3 P Γ bM ops o s k
def seen{α R:Type}(l:List α):(List α->R)->R:=List.rec (motive:=λ_=>(List α->R)->R) (λk=>k []) (λx _ ih k=>ih λl'=>k (x::l')) l
theorem Ly{α R:Type}:∀(l:List α) (k:List α->R),seen l k=k l
 |[],_=>rfl
 |_::l,k=>Ly l _
def AS.seen{R:Type}(s:AS)(k:AS->R):R:=Go.Ab.seen s.cn λl=>k ⟨l,s.b8,s.news⟩
theorem AS.Ly{R:Type}(s:AS)(k:AS->R):s.seen k=k s:=Go.Ab.Ly _ _
def ax1{R:Type}(P:aL)(Γ:qh)(bM:List Nat)(ops:Array Oper):List Oper->AS->(AS->Option R)->Option R
 |[],s,k=>k s
 |o::l,s,k=>ax0 P Γ bM ops o s λs'=>s'.seen λs'=>ax1 P Γ bM ops l s' k
def Y4(acc:List Nat)(o:Oper):Nat:=(o.after.toList.filter (Region.binds .any)).foldr (λe m=>Nat.lor (Nat.lor (Nat.pow 2 e.on) (acc.getD e.on 0)) m) 0
def acm(ops:List Oper):List Nat:=ops.foldl (λacc o=>acc++ [Y4 acc o]) []
structure DH where
 dst:Option Tmp
 cn:List Nat
 rs:List Id
 ws:List Id
def X0:Op->Bool
 | .move _=>aO
 |_=>aV
def aeT(s:AS)(o:Oper):List Id:=match X0 o.op with | true=> [] | false=>(QG o.op.operands).flatMap λi=>(s.slot i).ids
def uz:List (Option Ty)->List aF->List Id
 |none::ps,v::vs=>v.ids++uz ps vs
 |some _::ps,_::vs=>uz ps vs
 |_,_=> []
def writes(Γ:qh)(s:AS)(o:Oper):List Id:=
 match o.op with
 | .store _ x _=>(s.ev x).ids
 | .mapUpdate _ m _ _=>(s.ev m).ids
 | .range _ m=>(s.ev m).ids
 | .convert src dst x=>match src==dst with | true=>(s.ev x).ids | false=> []
 | .call c=>match c.callee with
  | .builtin .append=>match c.args.toList with | x::_=>(s.ev x).ids | []=> []
  | .builtin .delete=>match c.args.toList with | x::_=>(s.ev x).ids | []=> []
  | .builtin .copy=>match c.args.toList with | x::_=>(s.ev x).ids | []=> []
  | .builtin .unsafeString=>match c.args.toList with | x::_=>(s.ev x).ids | []=> []
  | .value F=>match s.ev F with
   | .fn f caps=>match Γ f (c.args.toList.map s.ev++caps.list) with
    |some en=>s.reach 64 (uz en.params (c.args.toList.map s.ev++caps.list)) []
    |none=> []
   |_=> []
  |_=> []
 |_=> []
def gO(Γ:qh)(ops:Array Oper)(s:AS)(o:Oper):DH:= {dst:=o.dst,cn:=QG o.op.operands++MN ops o,rs:=aeT s o++writes Γ s o,ws:=writes Γ s o}
def meets(xs ys:List Id):Bool:=xs.any λx=>ys.any λy=>decide (x=y)
def DH.aEL(f g:DH):Bool:=
 match f.dst with
 |some t=>(g.cn.any λx=>decide (x=t)) || decide (g.dst=au t)
 |none=>aV
def Uv(d:Option Tmp)(ids:List Id):Bool:=
 match d with
 |some q=>ids.any λx=>match x with | .new i _=>decide (i=q) | .bF _=>aV
 |none=>aV
def DH.indep(f g:DH):Bool:= !f.aEL g && !g.aEL f && !meets f.ws g.rs && !meets g.ws f.rs && !Uv f.dst g.rs && !Uv g.dst f.rs
def XF{R:Type}(P:aL)(Γ:qh)(bM:List Nat)(ops:Array Oper)(anc:List Nat):Nat->List Oper->List (Nat×DH)->AS->(AS->Option R)->Option R
 |_,[],_,s,k=>k s
 |i,o::l,fs,s,k=>
  match fs.all λx=>(anc.getD i 0).testBit x.1 || x.2.indep (gO Γ ops s o) with
  |true=>as3 P Γ bM ops o s λs'=>s'.seen λs'=>XF P Γ bM ops anc (i+1) l ((i,gO Γ ops s o)::fs) s' k
  |false=>aH
def ZL(ops:List Oper):Bool:=ops.zipIdx.all λx=>x.1.after.toList.all λe=> !Region.binds .any e || decide (e.on < x.2)
structure aq4 where
 j:Nat
 p:List Gs
 q:Nat
 T:TypeId
structure aFM where
 j:Nat
 p:List Gs
 t:Ty
structure oU where
 bz:List Nat:=[]
 sites:List Nat:=[]
 agt:List Id:=[]
 data:List (Nat×Ty):=[]
 owns:List aq4:=[]
 JP:List aFM:=[]
 aDR:List Nat:=[]
 aBs:List Id:=[]
 aId:List Nat:=[]
 aIM:List Nat:=[]
 aBl:List (Nat×Nat):=[]
 aIS:Option Nat:=aH
structure eA where
 X:Type
 run:AS->Option X
 out:X->Out (Exit×AS)
 set:Option (AS->X->Prop):=aH
structure aml where
 an:oU
 X:Type
 aGd:Exit->AS->Option X
 out:X->Out (Exit×AS)
 ok:∀e s x,aGd e s=au x->(out x).eval=au (e,s)
structure aD6 where
 j:Nat
 t:Ty
 r:Nat
def je:(t:Ty)->t.den->List Nat
 | .gR t,x=>match(x:Option (Nat×t.den)) with | some p=>p.1::je t p.2 | none=> []
 | .slice t,x=>(x:List t.den).flatMap (je t)
 | .arr _ t,x=>(x:List t.den).flatMap (je t)
 | .pair a b,x=>je a x.1++je b x.2
 | .fX t,x=>((x:Option (List t.den)).getD []).flatMap (je t)
 | .nL t,x=>match(x:Option t.den) with | some y=>je t y | none=> []
 | .int _,_ | .bool,_ | .str,_ | .unit,_=> []
def AS.Nd(s:AS):aF->List Nat
 | .d t x=>je t x
 | .cM id _ _ _ _ _=>match s.obj id with | some (_,_,.vec _ t l)=>(l:List t.den).flatMap (je t) | _=> []
 |_=> []
def aF.aD9:aF->Bool
 | .vec .. | .mp .. | .qa .. | .uN .. =>aV
 |_=>aO
def auj{R:Type}(s:AS)(x:aD6)(k:AS->Option R):Option R:=
 match s.slot x.j with
 | .ptr id ver [] 0=>match s.obj id with
  |some (v,aV,c)=>((s.iN x.t c.strip).bind λy=> .guard ((v==ver) && c.aD9 && !c.strip.shared.contains id) (.ok y)).run λy=>
    P2 (λn=>n ∉ s.Nd (s.slot x.r)) λn=>k (((s.bt c.strip.shared).freeze id).put (au x.j) (.d (.gR x.t) (au (n,y))))
  |_=>aH
 |_=>aH
def auk{R:Type}:List aD6->AS->(AS->Option R)->Option R
 |[],s,k=>k s
 |x::l,s,k=>auj s x λs'=>auk l s' k
structure zp where
 bM:List Nat:=[]
 loops:Nat->oU:=λ_=> {}
 outs:Nat->Bool->oU:=λ_ _=> {}
 iE:Nat->Option eA:=λ_=>aH
 owns:List aq4:=[]
 trim:List Nat:=[]
 res:List (Option Ty):=[]
 JP:List aFM:=[]
 aFh:Nat->Option aml:=λ_=>aH
 aFi:Nat->Option aml:=λ_=>aH
 rf:Nat->Option (Nat×List Nat):=λ_=>aH
 aJR:Nat->Option (List aq4):=λ_=>aH
 px:Option Nat:=aH
 aBl:List (Nat×Nat):=[]
 Qe:Nat->List aD6:=λ_=> []
def dH:Code->Nat
 | .region id _ _=>id
 | .seq a _=>dH a
 | .block _ b=>dH b
 | .loop b=>dH b
 | .scope b=>dH b
 | .cond _ a b=>match dH a with | 0=>dH b | n=>n
 |_=>0
def eO(bz:List Nat):Nat->List aF->List aF
 |_,[]=> []
 |i,v::vs=>(match bz.any (λx=>decide (x=i)) with | true=>v | false=> .undef)::eO bz (i+1) vs
def nh(bz:List Nat):Nat->List (List dE)->List (List dE)
 |_,[]=> []
 |i,v::vs=>(match bz.any (λx=>decide (x=i)) with | true=>v | false=> [])::nh bz (i+1) vs
def aF.head:aF->Option (Id×Nat)
 | .cM id ver [] 0 0 _=>au (id,ver)
 | .ptr id ver [] 0=>au (id,ver)
 |_=>aH
def Li(es:List dE)(b q:Nat)(i:Id)(ver:Nat):Option (Id×Nat):=
 match i with
 | .bF k=>au (.bF k,ver)
 | .new x j=>match decide (x=b) with
  |true=>(match es[j]? with | some (.obj v _ _)=>(match ver==v with | true=>au (.new q j,0) | false=>aH) | _=>aH)
  |false=>(match decide (x=q) with | true=>aH | false=>au (.new x j,ver))
def dE.ajm(ρ:Id->Nat->Option (Id×Nat)):dE->dE
 | .obj _ fr c=> .obj 0 fr (c.iL ρ)
 | .dead=> .dead
def aF.apF(ρ:Id->Nat->Option (Id×Nat))(kp:Id->Bool):aF->aF
 | .qa q ver k v rest cur=>match kp q with | true=> .qa q ver k v rest cur | false=> .qa q 0 k v rest cur
 |c=>c.iL ρ
def dE.Wo(ρ:Id->Nat->Option (Id×Nat))(kp:Id->Bool):dE->dE
 | .obj v fr c=> .obj v fr (c.apF ρ kp)
 | .dead=> .dead
def Gc(b q:Nat):Id->Bool | .bF _=>aO | .new x _=> !decide (x=b) && !decide (x=q)
def AS.Fe(s:AS)(b q:Nat)(es:List dE):AS:= {cn:=s.cn.map (aF.iL (Li es b q)),b8:=s.b8.map (dE.Wo (Li es b q) (Gc b q)),news:=((s.news.map λes'=>es'.map (dE.Wo (Li es b q) (Gc b q))).set b []).set q (es.map (dE.ajm (Li es b q)))}
def AS.at(s:AS)(j:Nat):List Gs->Out aF
 |[]=> .ok (s.slot j)
 |p=>match s.slot j with
  | .ptr id ver p0 _=>match s.obj id with
   |some (v,_,c)=> .guard (v==ver) ((loc c.strip (p0++p)).bind λr=> .ok r.2)
   |none=> .fail
  |_=> .fail
def AS.putAt(s:AS)(j:Nat)(v:aF):List Gs->Out AS
 |[]=> .ok (s.put (au j) v)
 |p=>match s.slot j with
  | .ptr id _ p0 _=>match s.obj id with
   |some (ver,fr,c)=>match c.strip with
    | .vec .. => .fail
    |c1=>(wF c1 (p0++p) v).bind λc'=> .ok (s.aY id (.obj ver fr (c.wrap c')))
   |none=> .fail
  |_=> .fail
def AS.still(s:AS):List Nat->AS
 |[]=>s
 |q::l=>(match s.obj (.new q 0) with | some (v,fr,.qa i ver k t r _)=>s.aY (.new q 0) (.obj v fr (.qa i ver k t r aH)) | _=>s).still l
def Yh(α:Type):Setoid (List α):=⟨List.Perm,lB,List.Perm.symm,List.Perm.trans⟩
def fK{α:Type}(l:List α):List α:=(pM (Quotient.mk (Yh α) l)).choose
def AS.canon(s:AS):List Id->AS
 |[]=>s
 |id::l=>(match s.obj id with | some (v,fr,.mp k t r)=>s.aY id (.obj v fr (.mp k t (fK r))) | _=>s).canon l
def OA(s:AS):List aFM->Out AS
 |[]=> .ok s
 |o::l=>match o.p,s.slot o.j with
  |_::_,.jW=>OA s l
  |_,_=>(s.at o.j o.p).bind λu=>(s.iN o.t u).bind λx=>((s.bt u.shared).putAt o.j (.d o.t x) o.p).bind λs'=>OA s' l
def HZ:(t:Ty)->t.den->Out aF
 | .fX t,x=> .si (x:Option (List t.den)).isNone (.ok .dd)
 | .pair a b,x=>(HZ a x.1).bind λu=>(HZ b x.2).bind λv=> .ok (Ku u v)
 |t,x=> .ok (.d t x)
def anE(s:AS):List Nat->Out AS
 |[]=> .ok s
 |j::l=>match s.slot j with
  | .ptr id ver (.idx k::p) n=>match s.obj id with
   |some (v,aV,.vec e t r)=> .guard (v==ver) (.si (decide (k < r.length)) ((HZ t (nth t r k)).bind λu=>
     anE ((s.aY id (.obj v aV (.bx e t.size (.pr (.d (.arr k t) (r.take k)) (.pr u (.d (.arr (r.drop (k+1)).length t) (r.drop (k+1)))))))).put (au j) (.ptr id ver (.snd:: .fst::p) n)) l))
   |_=> .fail
  | .ptr _ _ (.snd::_) _=>anE s l
  |_=> .fail
def awC(s:AS):List Nat->Out AS
 |[]=> .ok s
 |j::l=>match s.slot j with
  | .ptr id ver (.snd:: .fst::p) n=>match s.obj id with
   |some (v,aV,.bx e z (.pr (.d (.arr k t) l1) (.pr u (.d (.arr _ t') l2))))=> .guard ((v==ver) && (z==t.size) && !(z==0) && !(u.shared.any λi=>decide (i=id)))
     ((Out.opt (sh (.slice t') (.slice t) l2)).bind λl2=>(s.iN t u).bind λx=>
      awC (((s.bt u.shared).aY id (.obj v aV (.vec e t (l1++x::l2)))).put (au j) (.ptr id ver (.idx k::p) n)) l)
   |_=> .fail
  |_=> .fail
def uM(P:aL)(s:AS):List aq4->Out AS
 |[]=> .ok s
 |o::l=>match o.p,s.slot o.j with
  |_::_,.jW=>uM P s l
  |_,_=>(s.at o.j o.p).bind λu=>match u with
  | .dd=>match ZM P o.T,s.dW o.q with
   |some (e,t,_),aO=>((s.born o.q [.obj 0 aV (.vec e t [])]).putAt o.j (.cM (.new o.q 0) 0 [] 0 0 0) o.p).bind λs'=>uM P s' l
   |_,_=> .fail
  |u=>match u.head with
   |some (.new b j,ver)=>match s.obj (.new b j),decide (o.q < s.news.length) with
    |some (v,_,_),aO=>match v==ver with
     |true=>uM P (s.Fe b o.q (s.news.getD b [])) l
     |false=> .fail
    |_,_=> .fail
   |_=> .fail
def YR(s:AS):List Nat->Out AS
 |[]=> .ok s
 |j::l=>match s.slot j with
  | .cM id ver [] 0 0 len=>match s.obj id with
   |some (v,aV,.vec e t r)=>match v==ver with
    |true=> .si (decide (len<=r.length)) (YR (s.aY id (.obj v aV (.vec e t (r.take len)))) l)
    |false=> .fail
   |_=> .fail
  |_=> .fail
def asData(s:AS):List (Nat×Ty)->Out AS
 |[]=> .ok s
 | (j,t)::l=>(s.iN t (s.slot j)).bind λx=>asData ((s.bt (s.slot j).shared).put (au j) (.d t x)) l
def aF.there(s:AS):aF->Bool
 | .ptr id _ _ _=>(s.obj id).isSome
 | .cM id _ _ _ _ _=>(s.obj id).isSome
 | .pr a b=>a.there s && b.there s
 | .cons a b=>a.there s && b.there s
 | .fn _ c=>c.there s
 | .bx _ _ c=>c.there s
 | .dM id _=>(s.obj id).isSome
 | .yl id _=>(s.obj id).isSome
 | .uN _ f _=>f.there s
 | .qa .. =>aV
 |_=>aO
def dE.there(s:AS):dE->Bool
 | .obj _ _ (.qa id _ _ _ _ _)=>(s.obj id).isSome
 | .obj _ _ c=>c.there s
 | .dead=>aO
def Kj(an:oU)(s:AS):AS:= {cn:=eO an.bz 0 s.cn,b8:=s.b8,news:=nh an.sites 0 s.news}
def AS.aci(s:AS):Bool:=(s.cn.all (aF.there s)) && (s.b8.all (dE.there s)) && (s.news.all λes=>es.all (dE.there s))
def s9(k v n:Nat)(i:Id)(ver:Nat):Option (Id×Nat):=match i with
 | .bF j=>match ia j k with
  |true=>match ia ver v with | true=>au (.bF j,n) | false=>aH
  |false=>au (.bF j,ver)
 |i=>au (i,ver)
def Et(k:Nat):Id->Bool | .bF j=> !ia j k | _=>aO
def dE.ajn(ρ:Id->Nat->Option (Id×Nat))(kp:Id->Bool):dE->dE
 | .obj v fr c=> .obj v fr (c.apF ρ kp)
 | .dead=> .dead
def AS.arF(s:AS)(k n:Nat):Out AS:=match s.bS (.bF k) with
 |some (.obj v fr c)=> .guard (Nat.ble v n || Nat.ble 1 n) (.ok {cn:=s.cn.map (aF.iL (s9 k v n)),b8:=(s.b8.map (dE.ajn (s9 k v n) (Et k))).set k (.obj n fr (c.iL (s9 k v n))),news:=s.news.map λes=>es.map (dE.ajn (s9 k v n) (Et k))})
 |_=> .fail
def acO(s:AS):List (Nat×Nat)->Out AS
 |[]=> .ok s
 |x::l=>(s.arF x.1 x.2).bind λs=>acO s l
def AS.aEg(s:AS):List Id:=(s.reach 64 (s.cn.flatMap aF.ids++s.b8.flatMap dE.ids) []).filter λid=>match id with | .new _ _=>aO | .bF _=>aV
def anM(s:AS)(ids:List Id)(q:Nat):Id->Nat->Option (Id×Nat)
 | .bF k,ver=>au (.bF k,ver)
 | .new x y,ver=>match idxOf (.new x y) ids,s.obj (.new x y) with
  |some j,au (v,_,_)=>match ver==v with | true=>au (.new q j,0) | false=>aH
  |_,_=>aH
def dE.avw(ρ:Id->Nat->Option (Id×Nat)):dE->dE
 | .obj v fr c=> .obj v fr (c.iL ρ)
 | .dead=> .dead
def AS.El(s:AS)(ids:List Id)(q:Nat):AS:= {cn:=s.cn.map (aF.iL (anM s ids q)),b8:=s.b8.map (dE.avw (anM s ids q)),news:=(s.news.map λ_=> []).set q (ids.map λid=>((s.bS id).getD .dead).ajm (anM s ids q))}
def AS.ZZ(s:AS):Option Nat->Out AS
 |none=> .ok s
 |some q=> .guard (Nat.blt q s.news.length) (.ok (s.El s.aEg q))
def norm(P:aL)(an:oU)(s:AS):Out AS:=(acO s an.aBl).bind λs=>(awC (((s.bt an.agt).still an.aDR).canon an.aBs) an.aIM).bind λs=>(OA s an.JP).bind λs=>(asData s an.data).bind λs=> .guard (Kj an s).aci ((anE (Kj an s) an.aId).bind λs=>(uM P s an.owns).bind λs=>s.ZZ an.aIS)
def OS{R:Type}(nrm:AS->Out AS)(nrmX:Exit->AS->Out AS)(body:AS->(Exit->AS->Option R)->Option R):Nat->AS->(Exit->AS->Option R)->Option R
 | 0,_,_=>aH
 |n+1,s,k=>body s λe s'=>match e with
  | .normal=>(nrm s').run λs1=>OS nrm nrmX body n s1 k
  |e=>(nrmX e s').run (k e)
def aec:Exit->Bool | .ret=>aO | _=>aV
def awE{R:Type}(le:eA)(s:AS)(k:Exit->AS->Option R):Option R:=
 match le.set with
 |none=>ax (le.run s) λx=>(le.out x).run λr=>k r.1 r.2
 |some S=>P2 (S s) λx=>(le.out x).run λr=>k r.1 r.2
def MY{R:Type}(P:aL)(j:Option aml)(run: {R:Type}->(Exit->AS->Option R)->Option R)(k:Exit->AS->Option R):Option R:=
 match j with
 |none=>run k
 |some j=>ax (run λe s=>(norm P j.an s).run (j.aGd e)) λx=>(j.out x).run λr=>k r.1 r.2
def yp:List aF->aF
 |[]=> .nil
 |a::l=> .cons a (yp l)
def afs(P:aL)(h:fw):Bool:=match P.funcs[h]? with
 |some fn=> !(fn.name== "runtime.NumGoroutine") && fn.body.isSome
 |none=>aV
def CL{R:Type}(P:aL)(Γ:qh)(an:zp)(s:AS)(f:bI)(ps:Array Tmp)(as b:Code)(k:Exit->AS->Option R):Option R:=
 match an.px,an.rf (ps.getD 0 0),s.ev f with
 |none,au (y,bz),.fn h caps=>match afs P h && s.dW (ps.getD 0 0) && Nat.blt (ps.getD 0 0) s.cn.length && Nat.blt h yB,Γ h (.yl (.new (ps.getD 0 0) 0) 0::caps.list) with
  |true,au en=>((s.born (ps.getD 0 0) [.obj 0 aV (.uN ⟨y,ps,as,b⟩ (yp (eO bz 0 s.cn)) 0)]).put (au (ps.getD 0 0)) (.yl (.new (ps.getD 0 0) 0) 0)).aAm en aH (.yl (.new (ps.getD 0 0) 0) 0::caps.list) λs3=>
   match s3.bS (.new (ps.getD 0 0) 0),s3.slot (ps.getD 0 0) with
   |some (.obj 0 aV (.uN _ _ p)),.yl (.new q' 0) 0=>match ia q' (ps.getD 0 0),p with
    |true,0=>k .normal ((s3.aY (.new (ps.getD 0 0) 0) .dead).put (au (ps.getD 0 0)) .undef)
    |true,2=>k .ret ((s3.aY (.new (ps.getD 0 0) 0) .dead).put (au (ps.getD 0 0)) .undef)
    |true,i+3=>k (.exit i) ((s3.aY (.new (ps.getD 0 0) 0) .dead).put (au (ps.getD 0 0)) .undef)
    |_,_=>aH
   |_,_=>aH
  |_,_=>aH
 |_,_,_=>aH
def ev(P:aL)(Γ:qh)(an:zp)(N:Nat):Code-> {R:Type}->AS->(Exit->AS->Option R)->Option R
 | .skip,_,s,k=>k .normal s
 | .region id ops draw,_,s,k=>auk (an.Qe id) s λs=>MY P (an.aFh id) (λk=>match draw with
  |true=>(match ZL ops.toList with
   |true=>XF P Γ an.bM ops (acm ops.toList) 0 ops.toList [] s λs'=>k .normal s'
   |false=>aH)
  |false=>ax1 P Γ an.bM ops ops.toList s λs'=>k .normal s') k
 | .seq a b,_,s,k=>MY P (an.aFi (dH b)) (λk=>ev P Γ an N a s k) λe s'=>match e with | .normal=>ev P Γ an N b s' k | e=>k e s'
 | .cond c x y,_,s,k=>match s.ev c with
  | .d .bool b=>aP b (ev P Γ an N x s k) (ev P Γ an N y s k)
  |_=>aH
 | .block id b,_,s,k=>ev P Γ an N b s λe s'=>match e with | .exit i=>(match decide (i=id) with | true=>k .normal s' | false=>k (.exit i) s') | e=>k e s'
 | .loop b,_,s,k=>(norm P (an.loops (dH b)) s).run λs1=>match an.iE (dH b) with
  |some le=>awE le s1 k
  |none=>OS (norm P (an.loops (dH b))) (λe=>norm P (an.outs (dH b) (aec e))) (ev P Γ an N b) N s1 k
 | .scope b,_,s,k=>ev P Γ an N b s λe s'=>match e with | .goto _=>aH | e=>k e s'
 | .label _,_,s,k=>k .normal s
 | .exit id,_,s,k=>k (.exit id) s
 | .ret,_,s,k=>k .ret s
 | .rangeFunc f ps as b,_,s,k=>(uM P s ((an.aJR (ps.getD 0 0)).getD [])).run λs=>CL P Γ an s f ps as b k
 |_,_,_,_=>aH
def Ub(P:aL)(s:AS):ResultVar->Out aF
 | .tmp t=> .ok (s.slot t)
 | .cell a T=>Kp P s T (s.slot a)
def Ua(P:aL)(s:AS)(r:ResultVar):Option Ty->Out (AS×aF)
 |none=>(Ub P s r).bind λv=> .ok (s,v)
 |some t=>(Ub P s r).bind λv=>(s.iN t v).bind λx=> .ok (s.bt v.shared,.d t x)
def Lm(P:aL)(s:AS):List ResultVar->List (Option Ty)->Out (AS×aF)
 |[],_=> .ok (s,.nil)
 |r::rs,ts=>(Ua P s r (ts.headD aH)).bind λx=> .guard x.2.eJ ((Lm P x.1 rs ts.tail).bind λy=> .ok (y.1,.cons x.2 y.2))
def abj(P:aL)(fn:Func)(ts:List (Option Ty))(s:AS):Out (AS×aF):=
 match fn.results.toList with
 |[r]=>Ua P s r (ts.headD aH)
 |rs=>Lm P s rs ts
def jv:Code->List Code
 | .seq a b=>jv a++jv b
 | .cond _ a b=>jv a++jv b
 | .block _ b=>jv b
 | .scope b=>jv b
 | .loop b=>b::jv b
 |_=> []
def oe(fn:Func)(i:Nat):Code:=match fn.body with | some c=>(jv c).getD i .skip | none=> .skip
def ED(P:aL)(Γ:qh)(an:zp)(N:Nat)(fn:Func)(i:Nat){R:Type}(s:AS)(kn:AS->Option R)(kx:Exit->AS->Option R):Option R:=
 ev P Γ an N (oe fn i) s λe s'=>match e with
  | .normal=>(norm P (an.loops (dH (oe fn i))) s').run kn
  |e=>(norm P (an.outs (dH (oe fn i)) (aec e)) s').run (kx e)
def M6(P:aL)(Γ:qh)(an:zp)(N:Nat)(fn:Func)(i:Nat){R:Type}(n:Nat)(s:AS)(k:Exit->AS->Option R):Option R:=OS (norm P (an.loops (dH (oe fn i)))) (λe=>norm P (an.outs (dH (oe fn i)) (aec e))) (ev P Γ an N (oe fn i)) n s k
def Id.aAK:Id->Bool | .new _ _=>aO | .bF _=>aV
def AS.MI(s:AS)(v:aF):List Id:=(s.reach 64 (v.ids++s.b8.flatMap dE.ids) []).filter Id.aAK
def H2(ids:List Id):Id->Nat->Option (Id×Nat)
 | .bF k,v=>au (.bF k,v)
 |id,v=>match idxOf id ids with | some j=>au (.new 0 j,v) | none=>aH
def dE.fin(ids:List Id):dE->dE
 | .obj v fr c=> .obj v fr (c.iL (H2 ids))
 | .dead=> .dead
def AS.aAq(s:AS)(ids:List Id)(v:aF):iq:= {val:=v.iL (H2 ids),b8:=s.b8.map (dE.fin ids),news:=ids.map λid=>((s.bS id).getD .dead).fin ids}
def AS.fin(s:AS)(v:aF):iq:=s.aAq (s.MI v) v
def start(fn:Func)(args:List aF)(b8:List dE):AS:= {cn:=args++ai (fn.ntmps - args.length) .undef,b8,news:=ai fn.ntmps []}
def avx(fn:Func):List Nat:=fn.results.toList.map λr=>match r with | .tmp t=>t | .cell a _=>a
def AS.drop(s:AS)(ks:List Nat):AS:= {cn:=eO ks 0 s.cn,b8:=s.b8,news:=s.news}
def finish(P:aL)(an:zp)(fn:Func)(s:AS):Out iq:=(OA s an.JP).bind λs=>(uM P (s.drop (avx fn)) an.owns).bind λs=>(YR s an.trim).bind λs=>(acO s an.aBl).bind λs=>(abj P fn an.res s).bind λr=> .ok (r.1.fin r.2)
def aA2(P:aL)(y:Nat):Func:= {(default:Func) with body:=au (.seq (CN P y).as (CN P y).b)}
def AS.Ns(s:AS)(q p:Nat):Option AS:=match s.bS (.bF 0) with
 |some (.obj 0 aV (.uN c f q'))=>(match ia q q' with | true=>au (s.aY (.bF 0) (.obj 0 aV (.uN c f p))) | false=>aH)
 |_=>aH
def xF:List (Tmp×aF)->List aF->List aF
 |[],l=>l
 |x::xs,l=>xF xs (l.set x.1 x.2)
def UA(ps:List Tmp)(args:List aF)(b8:List dE):AS:= {cn:=xF (ps.zip (args.take ps.length)) (args.drop ps.length),b8,news:=ai (args.drop ps.length).length []}
def aAp:Exit->Option Nat
 | .normal=>au 0
 | .ret=>au 2
 | .exit i=>au (i+3)
 |_=>aH
def akR(P:aL)(an:zp)(s:AS)(v:aF):Out iq:=(OA s an.JP).bind λs=>(uM P (s.drop []) an.owns).bind λs=>(YR s an.trim).bind λs=>(acO s an.aBl).bind λs=> .ok (s.fin v)
def dE.first:dE->Bool
 | .obj v _ _=>ia v 0
 | .dead=>aO
def avP(P:aL)(Γ:qh)(an:zp)(N:Nat)(c:tm)(args:List aF)(b8:List dE){R:Type}(k:iq->Option R):Option R:=
 match args with
 | .yl (.bF 0) 0::args=>match b8.all dE.first with | false=>aH | true=>ev P Γ an N c.as (UA c.ps.toList args b8) λe s=>match e with
  | .normal=>ax (s.Ns 0 1) λs=>ev P Γ an N c.b s λe s=>ax (aAp e) λp=>ax (s.Ns 1 p) λs=>(akR P an s (.d .bool (ia p 0))).run k
  |_=>aH
 |_=>aH
def acq(P:aL)(Γ:qh)(an:zp)(N:Nat)(fn:Func)(args:List aF)(b8:List dE){R:Type}(k:iq->Option R):Option R:=
 match an.px with
 |some y=>avP P Γ an N (CN P y) args b8 k
 |none=>match fn.body with
 |some c=>match b8.all dE.first with | false=>aH | true=>ev P Γ an N c (start fn args b8) λe s=>match e with
  | .normal=>(finish P an fn s).run k
  | .ret=>(finish P an fn s).run k
  |_=>aH
 |none=>aH
end Go.Ab
namespace Go.Ab
inductive Own where
 |ez
 |id (i:Id)
inductive lA where
 |free
 |own (o:Own) (k:Nat)
structure Pl where
 b:Nat
 cap:Nat
structure Env where
 w:bV
 g:Nat->lA
 β:Id->Option Pl
 s:Id->Option dE
def rH(g:Nat->lA)(b off:Nat):Prop:=match g b with | .free=>True | .own _ k=>off < k
def Env.has(E:Env)(b off:Nat)(v:Value):Prop:=E.w.cell? ⟨b,off,aH⟩=au v/\rH E.g b off
def bq{α:Type}(R:List Value->α->Prop):List Value->List α->Prop
 |cs,[]=>cs=[]
 |cs,x::xs=>∃c cs',cs=c++cs'/\R c x/\bq R cs' xs
def wB(E:Env)(a:Option Addr)(vs:List Value):Prop:=∀i v,vs[i]? =au v->∃b off,a=au ⟨b,off,aH⟩/\E.has b (off+i) v
def cG(E:Env):(t:Ty)->List Value->t.den->Prop
 | .int k,cs,x=>cs=[.int k x]
 | .bool,cs,x=>cs=[.bool x]
 | .str,cs,x=>cs=[.string x]
 | .slice t,cs,l=>∃a cap vs,cs=[.slice a (l:List t.den).length cap]/\(l:List t.den).length<=cap/\(0 < (l:List t.den).length->a.isSome=aO)/\wB E a vs/\bq (cG E t) vs l
 | .unit,cs,_=>cs=[]
 | .pair a b,cs,x=>∃ca cb,cs=ca++cb/\cG E a ca x.1/\cG E b cb x.2
 | .arr n t,cs,l=>(l:List t.den).length=n/\bq (cG E t) cs l
 | .fX t,cs,x=>((x:Option (List t.den))=aH->cs=[.slice aH 0 0])/\∀l:List t.den,(x:Option (List t.den))=au l->
   ∃a cap vs,cs=[.slice a l.length cap]/\l.length<=cap/\(0 < l.length->a.isSome=aO)/\wB E a vs/\bq (cG E t) vs l
 | .nL t,cs,x=>((x:Option t.den)=aH->cs=[.pointer aH])/\∀y:t.den,(x:Option t.den)=au y->
   ∃b off vs,cs=[.pointer (au ⟨b,off,aH⟩)]/\wB E (au ⟨b,off,aH⟩) vs/\cG E t vs y
 | .gR t,cs,x=>((x:Option (Nat×t.den))=aH->cs=[.pointer aH])/\∀y:Nat×t.den,(x:Option (Nat×t.den))=au y->
   ∃ca T vs,cs=[.pointer (au ⟨y.1,0,aH⟩)]/\(E.g y.1= .free/\E.w.heap[y.1]? =au (.cells ca T (0,0)))/\wB E (au ⟨y.1,0,aH⟩) vs/\cG E t vs y.2
section
variable {α:Type} {R R':List Value->α->Prop} {z:Nat}
theorem bq.mono(h:∀c x,R c x->R' c x):∀ {cs:List Value} {l:List α},bq R cs l->bq R' cs l
 |_,[],hc=>hc
 |_,_::_,⟨c,cs',e,hx,hr⟩=>⟨c,cs',e,h _ _ hx,bq.mono h hr⟩
theorem bq.length(h:∀c x,R c x->c.length=z):∀ {cs:List Value} {l:List α},bq R cs l->cs.length=l.length*z
 |cs,[],hc=>by have:cs=[]:=hc;simp[this]
 |_,x::xs,⟨c,cs',e,hx,hr⟩=>by rw[e,ak,h c x hx,bq.length h hr,aB,eH,iv,Nat.add_comm]
theorem bq.all{p:Value->Prop}(h:∀c x,R c x->∀v∈c,p v):∀ {cs:List Value} {l:List α},bq R cs l->∀v∈cs,p v
 |cs,[],hc,v,hv=>by have:cs=[]:=hc;simp[this]at hv
 |_,_::_,⟨c,cs',e,hx,hr⟩,v,hv=>by
  rw[e]at hv;rcases bp.1 hv with hv | hv
  ·exact h _ _ hx v hv
  ·exact bq.all h hr v hv
theorem bq.append:∀ {cs:List Value} {l:List α} {cs':List Value} {l':List α},bq R cs l->bq R cs' l'->bq R (cs++cs') (l++l')
 |cs,[],_,_,hc,h'=>by have:cs=[]:=hc;simpa[this]using h'
 |_,x::xs,_,_,⟨c,cs1,e,hx,hr⟩,h'=>⟨c,cs1++_,by rw[e,aK],hx,bq.append hr h'⟩
theorem bq.take(h:∀c x,R c x->c.length=z):∀ {cs:List Value} {l:List α} (n:Nat),bq R cs l->bq R (cs.take (n*z)) (l.take n)
 |cs,[],n,hc=>by have:cs=[]:=hc;simp[this,bq]
 |_,x::xs,0,_=>by simp[bq]
 |_,x::xs,n+1,⟨c,cs',e,hx,hr⟩=>by refine⟨c,cs'.take (n*z),?_,hx,bq.take h n hr⟩;rw[e,lF,h c x hx,eH,iv,bH (by rw[h c x hx];omega),Nat.add_sub_cancel]
theorem bq.drop(h:∀c x,R c x->c.length=z):∀ {cs:List Value} {l:List α} (n:Nat),bq R cs l->bq R (cs.drop (n*z)) (l.drop n)
 |cs,[],n,hc=>by have:cs=[]:=hc;simp[this,bq]
 |_,x::xs,0,hc=>by simpa using hc
 |_,x::xs,n+1,⟨c,cs',e,hx,hr⟩=>by rw[e,jM,h c x hx,eH,iv,gh (by rw[h c x hx];omega),Nat.add_sub_cancel];simpa using bq.drop h n hr
theorem bq.get(h:∀c x,R c x->c.length=z){cs:List Value}{l:List α}(hc:bq R cs l)(i:Nat)(hi:i < l.length):R ((cs.drop (i*z)).take z) l[i]:=by have h1:=bq.take h 1 (bq.drop h i hc);rw[aA hi]at h1;simp only[iv,pL,fb]at h1;obtain⟨c,cs',e,hx,hr⟩:=h1;have:cs'=[]:=hr;rw[e,this,bo];exact hx
theorem bq.set(h:∀c x,R c x->c.length=z){cs:List Value}{l:List α}(hc:bq R cs l)(i:Nat)(hi:i < l.length){c:List Value}{x:α}(hx:R c x):
  bq R (cs.take (i*z)++c++cs.drop (i*z+c.length)) (l.set i x):=by
 rw[List.set_eq_take_append_cons_drop,if_pos hi,h c x hx];have h1:=bq.take h i hc;have h2:=bq.drop h (i+1) hc;rw[eH,iv]at h2;have h3:bq R (c++cs.drop (i*z+z)) (x::l.drop (i+1)):=⟨c,_,rfl,hx,h2⟩;rw[aK];exact bq.append h1 h3
theorem bq.one{c:List Value}{x:α}(h:R c x):bq R c [x]:=⟨c,[],by simp,h,rfl⟩
end
theorem cG.size{E:Env}:∀ {t:Ty} {cs:List Value} {x:t.den},cG E t cs x->cs.length=t.size
 | .int _,_,_,h=>by simp only[cG]at h;simp[h,Ty.size]
 | .bool,_,_,h=>by simp only[cG]at h;simp[h,Ty.size]
 | .str,_,_,h=>by simp only[cG]at h;simp[h,Ty.size]
 | .slice t,_,_,h=>by simp only[cG]at h;obtain⟨a,cap,vs,rfl,_⟩:=h;simp[Ty.size]
 | .unit,_,_,h=>by simp only[cG]at h;simp[h,Ty.size]
 | .pair a b,_,_,h=>by simp only[cG]at h;obtain⟨ca,cb,rfl,ha,hb⟩:=h;simp[Ty.size,cG.size ha,cG.size hb]
 | .arr n t,_,_,h=>by simp only[cG]at h;rw[bq.length (λc x hx=>cG.size hx) h.2,h.1,Ty.size]
 | .fX t,_,x,h=>by
  simp only[cG]at h;obtain⟨h1,h2⟩:=h;cases hx:(x:Option (List t.den)) with
  |none=>rw[h1 hx];rfl
  |some l=>obtain⟨a,cap,vs,rfl,_⟩:=h2 l hx;rfl
 | .nL t,_,x,h=>by
  simp only[cG]at h;obtain⟨h1,h2⟩:=h;cases hx:(x:Option t.den) with
  |none=>rw[h1 hx];rfl
  |some l=>obtain⟨b,off,vs,rfl,_⟩:=h2 l hx;rfl
 | .gR t,_,x,h=>by
  simp only[cG]at h;obtain⟨h1,h2⟩:=h;cases hx:(x:Option (Nat×t.den)) with
  |none=>rw[h1 hx];rfl
  |some l=>obtain⟨ca,T,vs,rfl,_⟩:=h2 l hx;rfl
theorem cG.one{E:Env}:∀ {t:Ty} {cs:List Value} {x:t.den},cG E t cs x->∀c∈cs,c.oneCell'=aO
 | .int _,_,_,h=>by simp only[cG]at h;simp[h,dm]
 | .bool,_,_,h=>by simp only[cG]at h;simp[h,dm]
 | .str,_,_,h=>by simp only[cG]at h;simp[h,dm]
 | .slice t,_,_,h=>by simp only[cG]at h;obtain⟨a,cap,vs,rfl,_⟩:=h;simp[dm]
 | .unit,_,_,h=>by simp only[cG]at h;simp[h]
 | .pair a b,_,_,h=>by
  simp only[cG]at h;obtain⟨ca,cb,rfl,ha,hb⟩:=h;intro c hc;rcases bp.1 hc with hc | hc
  ·exact cG.one ha c hc
  ·exact cG.one hb c hc
 | .arr n t,_,_,h=>by simp only[cG]at h;exact bq.all (λc x hx=>cG.one hx) h.2
 | .fX t,_,x,h=>by
  simp only[cG]at h;obtain⟨h1,h2⟩:=h;cases hx:(x:Option (List t.den)) with
  |none=>rw[h1 hx];simp[dm]
  |some l=>obtain⟨a,cap,vs,rfl,_⟩:=h2 l hx;simp[dm]
 | .nL t,_,x,h=>by
  simp only[cG]at h;obtain⟨h1,h2⟩:=h;cases hx:(x:Option t.den) with
  |none=>rw[h1 hx];simp[dm]
  |some l=>obtain⟨b,off,vs,rfl,_⟩:=h2 l hx;simp[dm]
 | .gR t,_,x,h=>by
  simp only[cG]at h;obtain⟨h1,h2⟩:=h;cases hx:(x:Option (Nat×t.den)) with
  |none=>rw[h1 hx];simp[dm]
  |some l=>obtain⟨ca,T,vs,rfl,_⟩:=h2 l hx;simp[dm]
structure rS(E E':Env):Prop where
 has:∀b off v,E.has b off v->E'.has b off v
 fz:∀b ob,E.g b= .free->E.w.heap[b]? =au ob->E'.g b= .free/\E'.w.heap[b]? =au ob
theorem rS.refl(E:Env):rS E E:=⟨λ_ _ _ h=>h,λ_ _ h h'=>⟨h,h'⟩⟩
theorem rS.trans{E E' E'':Env}(h:rS E E')(h':rS E' E''):rS E E'':=⟨λb o v x=>h'.has b o v (h.has b o v x),λb ob h1 h2=>let⟨h3,h4⟩:=h.fz b ob h1 h2;h'.fz b ob h3 h4⟩
theorem wB.mono{E E':Env}(h:rS E E'){a:Option Addr}{vs:List Value}(hr:wB E a vs):wB E' a vs:=
 λi v hv=>let⟨b,off,ha,hh⟩:=hr i v hv;⟨b,off,ha,h.has _ _ _ hh⟩
theorem cG.mono{E E':Env}(hm:rS E E'):∀ {t:Ty} {cs:List Value} {x:t.den},cG E t cs x->cG E' t cs x
 | .int _,_,_,h=>by simpa only[cG]using h
 | .bool,_,_,h=>by simpa only[cG]using h
 | .str,_,_,h=>by simpa only[cG]using h
 | .slice t,_,_,h=>by simp only[cG]at h ⊢;obtain⟨a,cap,vs,e,hl,hs,hr,hc⟩:=h;exact⟨a,cap,vs,e,hl,hs,hr.mono hm,hc.mono λc x hx=>cG.mono hm hx⟩
 | .unit,_,_,h=>by simpa only[cG]using h
 | .pair a b,_,_,h=>by simp only[cG]at h ⊢;obtain⟨ca,cb,e,ha,hb⟩:=h;exact⟨ca,cb,e,cG.mono hm ha,cG.mono hm hb⟩
 | .arr n t,_,_,h=>by simp only[cG]at h ⊢;exact⟨h.1,h.2.mono λc x hx=>cG.mono hm hx⟩
 | .fX t,_,_,h=>by simp only[cG]at h ⊢;refine⟨h.1,λl hx=> ?_⟩;obtain⟨a,cap,vs,e,hl,hs,hr,hc⟩:=h.2 l hx;exact⟨a,cap,vs,e,hl,hs,hr.mono hm,hc.mono λc x hx=>cG.mono hm hx⟩
 | .nL t,_,_,h=>by simp only[cG]at h ⊢;refine⟨h.1,λl hx=> ?_⟩;obtain⟨b,off,vs,e,hr,hc⟩:=h.2 l hx;exact⟨b,off,vs,e,hr.mono hm,cG.mono hm hc⟩
 | .gR t,_,_,h=>by simp only[cG]at h ⊢;refine⟨h.1,λl hx=> ?_⟩;obtain⟨ca,T,vs,e,h0,hr,hc⟩:=h.2 l hx;exact⟨ca,T,vs,e,hm.fz _ _ h0.1 h0.2,hr.mono hm,cG.mono hm hc⟩
theorem wB.uniq{E:Env}{a:Option Addr}{vs vs':List Value}(hl:vs.length=vs'.length)(h:wB E a vs)(h':wB E a vs'):vs=vs':=by apply oR hl;intro i h1 h2;obtain⟨b,off,e,hh⟩:=h i vs[i] (bW h1);obtain⟨b',off',e',hh'⟩:=h' i vs'[i] (bW h2);rw[e]at e';simp only[az,Addr.mk.injEq,ea]at e';obtain⟨rfl,rfl⟩:=e';exact aQ (hh.1.symm.trans hh'.1)
theorem bq.uniq{α:Type}{R:List Value->α->Prop}{z:Nat}(hs:∀c x,R c x->c.length=z)(hR:∀c x y,R c x->R c y->x=y):∀ {cs:List Value} {l l':List α},l.length=l'.length->bq R cs l->bq R cs l'->l=l'
 |_,[],[],_,_,_=>rfl
 |_,[],_::_,hl,_,_=>by simp at hl
 |_,_::_,[],hl,_,_=>by simp at hl
 |cs,x::xs,y::ys,hl,⟨c,cs1,e,hx,hr⟩,⟨d,cs2,e',hy,hr'⟩=>by rw[e]at e';obtain⟨rfl,rfl⟩:=List.append_inj e' (by rw[hs _ _ hx,hs _ _ hy]);rw[hR _ _ _ hx hy,bq.uniq hs hR (by simpa using hl) hr hr']
theorem cG.uniq{E:Env}:∀ {t:Ty} {cs:List Value} {x y:t.den},t.alx=aO->cG E t cs x->cG E t cs y->x=y
 | .int _,_,_,_,_,h,h'=>by simp only[cG]at h h';rw[h]at h';simpa using h'
 | .bool,_,_,_,_,h,h'=>by simp only[cG]at h h';rw[h]at h';simpa using h'
 | .str,_,_,_,_,h,h'=>by simp only[cG]at h h';rw[h]at h';simpa using h'
 | .slice t,_,x,y,hn,h,h'=>by
  simp only[cG]at h h';obtain⟨a,cap,vs,e,_,_,hr,hc⟩:=h;obtain⟨a',cap',vs',e',_,_,hr',hc'⟩:=h';rw[e]at e';simp only[cD,Value.slice.injEq,ea]at e';obtain⟨rfl,hl,_⟩:=e';have hl:(x:List t.den).length=(y:List t.den).length:=by exact_mod_cast hl
  have h1:=bq.length (λc x hx=>cG.size hx) hc;have h2:=bq.length (λc x hx=>cG.size hx) hc';obtain rfl:=hr.uniq (by rw[h1,h2,hl]) hr';exact bq.uniq (λc x hx=>cG.size hx) (λc x y hx hy=>cG.uniq (by simpa only[Ty.alx]using hn) hx hy) hl hc hc'
 | .unit,_,_,_,_,_,_=>rfl
 | .pair a b,_,x,y,hn,h,h'=>by simp only[Ty.alx,al]at hn;simp only[cG]at h h';obtain⟨ca,cb,e,ha,hb⟩:=h;obtain⟨ca',cb',e',ha',hb'⟩:=h';rw[e]at e';obtain⟨rfl,rfl⟩:=List.append_inj e' (by rw[cG.size ha,cG.size ha']);exact Prod.ext (cG.uniq hn.1 ha ha') (cG.uniq hn.2 hb hb')
 | .arr n t,_,x,y,hn,h,h'=>by simp only[cG]at h h';exact bq.uniq (λc x hx=>cG.size hx) (λc x y hx hy=>cG.uniq (by simpa only[Ty.alx]using hn) hx hy) (h.1.trans h'.1.symm) h.2 h'.2
 | .fX _,_,_,_,hn,_,_=>by simp[Ty.alx]at hn
 | .nL t,_,x,y,hn,h,h'=>by
  simp only[cG]at h h';cases hx:(x:Option t.den) with
  |none=>cases hy:(y:Option t.den) with
   |none=>rfl
   |some v=>
    obtain⟨b,off,vs,e,_⟩:=h'.2 v hy;rw[h.1 hx]at e;simp at e
  |some u=>cases hy:(y:Option t.den) with
   |none=>
    obtain⟨b,off,vs,e,_⟩:=h.2 u hx;rw[h'.1 hy]at e;simp at e
   |some v=>
    obtain⟨b,off,vs,e,hr,hc⟩:=h.2 u hx;obtain⟨b',off',vs',e',hr',hc'⟩:=h'.2 v hy;rw[e]at e';simp only[cD,Value.pointer.injEq,az,Addr.mk.injEq,ea]at e';obtain⟨rfl,rfl⟩:=e';obtain rfl:=hr.uniq (by rw[cG.size hc,cG.size hc']) hr';rw[cG.uniq (by simpa only[Ty.alx]using hn) hc hc']
 | .gR t,_,x,y,hn,h,h'=>by
  simp only[cG]at h h';cases hx:(x:Option (Nat×t.den)) with
  |none=>cases hy:(y:Option (Nat×t.den)) with
   |none=>rfl
   |some v=>
    obtain⟨ca,T,vs,e,_⟩:=h'.2 v hy;rw[h.1 hx]at e;simp at e
  |some u=>cases hy:(y:Option (Nat×t.den)) with
   |none=>
    obtain⟨ca,T,vs,e,_⟩:=h.2 u hx;rw[h'.1 hy]at e;simp at e
   |some v=>
    obtain⟨ca,T,vs,e,_,hr,hc⟩:=h.2 u hx;obtain⟨ca',T',vs',e',_,hr',hc'⟩:=h'.2 v hy;rw[e]at e';simp only[cD,Value.pointer.injEq,az,Addr.mk.injEq,ea]at e';rw[<-e']at hr';obtain rfl:=hr.uniq (by rw[cG.size hc,cG.size hc']) hr';exact bK au (Prod.ext e' (cG.uniq (by simpa only[Ty.alx]using hn) hc hc'))
def Env.cur(E:Env)(id:Id)(ver:Nat):Prop:=∃fr c,E.s id=au (.obj ver fr c)
def Env.C8(E:Env)(id:Id)(ver:Nat):Prop:=E.s id≠aH/\∀v fr c,E.s id=au (.obj v fr c)->ver<=v
def fT(agg:Bool)(cs:List Value)(v:Value):Prop:=match agg with | true=>v= .agg cs.toArray | false=>cs=[v]
mutual
def V(E:Env):aF->List Value->Prop
 | .undef,_=>False
 | .gone,cs=>∃v,cs=[v]/\v.oneCell'=aO
 | .dd,cs=>cs=[.slice aH 0 0]
 | .jW,cs=>cs=[.pointer aH]
 | .vB,cs=>cs=[.nilFunc]
 | .AL,cs=>cs=[.map aH]
 | .sb l,cs=>∃(b cap:Nat) (arr:Array Value) (e:TypeId),cs=[.slice (au ⟨b,0,aH⟩) l.length cap]/\l.length<=cap/\E.g b= .free/\E.w.heap[b]? =au (.cells arr e (arr.size,arr.size+1))/\∀(j:Nat) (v:Value),(l.map (Value.int .u8))[j]? =au v->arr[j]? =au v
 | .d t x,cs=>cG E t cs x
 | .pr a b,cs=>∃ca cb,cs=ca++cb/\V E a ca/\V E b cb
 | .ptr id ver _ n,cs=>∃a,cs=[.pointer (au a)]/\E.C8 id ver/\(E.cur id ver->∃pl,E.β id=au pl/\a=⟨pl.b,n,aH⟩)
 | .eG t x,cs=>∃b off vs,cs=[.pointer (au ⟨b,off,aH⟩)]/\wB E (au ⟨b,off,aH⟩) vs/\cG E t vs x
 | .cM id ver p c i len,cs=>∃a cap,cs=[.slice a len cap]/\len<=cap/\(0 < len->a.isSome=aO)/\E.C8 id ver/\
   (E.cur id ver->match E.β id with
    |some pl=>(0 < len\/i=0->a=au ⟨pl.b,c,aH⟩)/\(p=[]->i=0->cap=pl.cap)
    |none=>a=aH/\len=0/\cap=0)
 | .fn f c,cs=>∃vs,cs=[.func (.func f) #[] vs.toArray]/\VC E c vs
 | .cons _ _,_=>False
 | .nil,_=>False
 | .vec ..,_=>False
 | .bx ..,_=>False
 | .yl id ver,cs=>∃l,cs=[.func (.yield l) #[] #[]]/\E.C8 id ver/\(E.cur id ver->∃pl,E.β id=au pl/\l=pl.b)
 | .uN ..,_=>False
 | .dM id ver,cs=>∃b,cs=[.map (au b)]/\E.C8 id ver/\(E.cur id ver->∃pl,E.β id=au pl/\b=pl.b)
 | .mp ..,_ | .qa ..,_=>False
def VC(E:Env):aF->List Value->Prop
 | .nil,vs=>vs=[]
 | .cons a b,vs=>∃v vs' cs,vs=v::vs'/\V E a cs/\fT a.agg cs v/\VC E b vs'
 |_,_=>False
end
structure cP(E E':Env):Prop where
 mem:rS E E'
 C8:∀id ver,E.C8 id ver->E'.C8 id ver
 cur:∀id ver,E.C8 id ver->E'.cur id ver->E.cur id ver/\E'.β id=E.β id
theorem cP.refl(E:Env):cP E E:=⟨rS.refl E,λ_ _ h=>h,λ_ _ _ h=>⟨h,rfl⟩⟩
theorem cP.trans{E E' E'':Env}(h:cP E E')(h':cP E' E''):cP E E'':=
 ⟨h.mem.trans h'.mem,λid v b=>h'.C8 id v (h.C8 id v b),λid v b c=>
  let⟨c1,e1⟩:=h'.cur id v (h.C8 id v b) c
  let⟨c2,e2⟩:=h.cur id v b c1
  ⟨c2,e1.trans e2⟩⟩
mutual
theorem V.mono{E E':Env}(h:cP E E'):∀ {a:aF} {cs:List Value},V E a cs->V E' a cs
 | .undef,_,hv=>by simp only[V]at hv
 | .gone,_,hv=>by simpa only[V]using hv
 | .dd,_,hv=>by simpa only[V]using hv
 | .jW,_,hv=>by simpa only[V]using hv
 | .vB,_,hv=>by simpa only[V]using hv
 | .uN ..,_,hv=>by simp only[V]at hv
 | .AL,_,hv=>by simpa only[V]using hv
 | .sb l,_,hv=>by simp only[V]at hv ⊢;obtain⟨b,cap,arr,e,h1,h2,h3,h4,h5⟩:=hv;obtain⟨h6,h7⟩:=h.mem.fz b _ h3 h4;exact⟨b,cap,arr,e,h1,h2,h6,h7,h5⟩
 | .d t x,_,hv=>by simp only[V]at hv ⊢;exact hv.mono h.mem
 | .pr a b,_,hv=>by simp only[V]at hv ⊢;obtain⟨ca,cb,e,ha,hb⟩:=hv;exact⟨ca,cb,e,V.mono h ha,V.mono h hb⟩
 | .ptr id ver p n,_,hv=>by simp only[V]at hv ⊢;obtain⟨a,e,hb,hc⟩:=hv;refine⟨a,e,h.C8 _ _ hb,λc=> ?_⟩;obtain⟨c1,e1⟩:=h.cur _ _ hb c;rw[e1];exact hc c1
 | .eG t x,_,hv=>by simp only[V]at hv ⊢;obtain⟨b,off,vs,e,hr,hx⟩:=hv;exact⟨b,off,vs,e,hr.mono h.mem,hx.mono h.mem⟩
 | .cM id ver p c i len,_,hv=>by simp only[V]at hv ⊢;obtain⟨a,cap,e,hl,hs,hb,hc⟩:=hv;refine⟨a,cap,e,hl,hs,h.C8 _ _ hb,λc=> ?_⟩;obtain⟨c1,e1⟩:=h.cur _ _ hb c;rw[e1];exact hc c1
 | .fn f c,_,hv=>by simp only[V]at hv ⊢;obtain⟨vs,e,hc⟩:=hv;exact⟨vs,e,VC.mono h hc⟩
 | .cons _ _,_,hv=>by simp only[V]at hv
 | .nil,_,hv=>by simp only[V]at hv
 | .vec ..,_,hv=>by simp only[V]at hv
 | .bx ..,_,hv=>by simp only[V]at hv
 | .yl id ver,_,hv=>by simp only[V]at hv ⊢;obtain⟨b,e,hb,hc⟩:=hv;refine⟨b,e,h.C8 _ _ hb,λc=> ?_⟩;obtain⟨c1,e1⟩:=h.cur _ _ hb c;rw[e1];exact hc c1
 | .dM id ver,_,hv=>by simp only[V]at hv ⊢;obtain⟨b,e,hb,hc⟩:=hv;refine⟨b,e,h.C8 _ _ hb,λc=> ?_⟩;obtain⟨c1,e1⟩:=h.cur _ _ hb c;rw[e1];exact hc c1
 | .mp ..,_,hv | .qa ..,_,hv=>by simp only[V]at hv
theorem VC.mono{E E':Env}(h:cP E E'):∀ {a:aF} {vs:List Value},VC E a vs->VC E' a vs
 | .nil,_,hv=>by simpa only[VC]using hv
 | .cons a b,_,hv=>by simp only[VC]at hv ⊢;obtain⟨v,vs',cs,e,ha,ho,hb⟩:=hv;exact⟨v,vs',cs,e,V.mono h ha,ho,VC.mono h hb⟩
 | .undef,_,hv=>by simp only[VC]at hv
 | .gone,_,hv=>by simp only[VC]at hv
 | .dd,_,hv=>by simp only[VC]at hv
 | .jW,_,hv=>by simp only[VC]at hv
 | .vB,_,hv=>by simp only[VC]at hv
 | .yl ..,_,hv | .uN ..,_,hv=>by simp only[VC]at hv
 | .AL,_,hv=>by simp only[VC]at hv
 | .sb _,_,hv=>by simp only[VC]at hv
 | .d t x,_,hv=>by simp only[VC]at hv
 | .pr a b,_,hv=>by simp only[VC]at hv
 | .ptr ..,_,hv=>by simp only[VC]at hv
 | .eG ..,_,hv=>by simp only[VC]at hv
 | .cM ..,_,hv=>by simp only[VC]at hv
 | .fn ..,_,hv=>by simp only[VC]at hv
 | .vec ..,_,hv=>by simp only[VC]at hv
 | .bx ..,_,hv=>by simp only[VC]at hv
 | .dM ..,_,hv=>by simp only[VC]at hv
 | .mp ..,_,hv | .qa ..,_,hv=>by simp only[VC]at hv
end
theorem V.size{E:Env}:∀ {a:aF} {cs:List Value},V E a cs->cs.length=a.size
 | .undef,_,hv=>by simp only[V]at hv
 | .gone,_,hv=>by simp only[V]at hv;obtain⟨v,rfl,_⟩:=hv;rfl
 | .dd,_,hv=>by simp only[V]at hv;rw[hv];rfl
 | .jW,_,hv=>by simp only[V]at hv;rw[hv];rfl
 | .vB,_,hv=>by simp only[V]at hv;rw[hv];rfl
 | .yl ..,_,hv=>by simp only[V]at hv;obtain⟨_,rfl,_⟩:=hv;rfl
 | .uN ..,_,hv=>by simp only[V]at hv
 | .AL,_,hv=>by simp only[V]at hv;rw[hv];rfl
 | .sb _,_,hv=>by simp only[V]at hv;obtain⟨_,_,_,_,rfl,_⟩:=hv;rfl
 | .d t x,_,hv=>by simp only[V]at hv;exact hv.size
 | .pr a b,_,hv=>by simp only[V]at hv;obtain⟨ca,cb,rfl,ha,hb⟩:=hv;simp[aF.size,V.size ha,V.size hb]
 | .ptr ..,_,hv=>by simp only[V]at hv;obtain⟨a,rfl,_⟩:=hv;rfl
 | .eG ..,_,hv=>by simp only[V]at hv;obtain⟨_,_,_,rfl,_⟩:=hv;rfl
 | .cM ..,_,hv=>by simp only[V]at hv;obtain⟨_,_,rfl,_⟩:=hv;rfl
 | .fn ..,_,hv=>by simp only[V]at hv;obtain⟨_,rfl,_⟩:=hv;rfl
 | .cons _ _,_,hv=>by simp only[V]at hv
 | .nil,_,hv=>by simp only[V]at hv
 | .vec ..,_,hv=>by simp only[V]at hv
 | .bx ..,_,hv=>by simp only[V]at hv
 | .dM ..,_,hv=>by simp only[V]at hv;obtain⟨_,rfl,_⟩:=hv;rfl
 | .mp ..,_,hv | .qa ..,_,hv=>by simp only[V]at hv
theorem V.one{E:Env}:∀ {a:aF} {cs:List Value},V E a cs->∀c∈cs,c.oneCell'=aO
 | .undef,_,hv=>by simp only[V]at hv
 | .gone,_,hv=>by simp only[V]at hv;obtain⟨v,rfl,h⟩:=hv;simp[h]
 | .dd,_,hv=>by simp only[V]at hv;rw[hv];simp[dm]
 | .jW,_,hv=>by simp only[V]at hv;rw[hv];simp[dm]
 | .vB,_,hv=>by simp only[V]at hv;rw[hv];simp[dm]
 | .yl ..,_,hv=>by simp only[V]at hv;obtain⟨_,rfl,_⟩:=hv;simp[dm]
 | .uN ..,_,hv=>by simp only[V]at hv
 | .AL,_,hv=>by simp only[V]at hv;rw[hv];simp[dm]
 | .sb _,_,hv=>by simp only[V]at hv;obtain⟨_,_,_,_,rfl,_⟩:=hv;simp[dm]
 | .d t x,_,hv=>by simp only[V]at hv;exact hv.one
 | .pr a b,_,hv=>by
  simp only[V]at hv;obtain⟨ca,cb,rfl,ha,hb⟩:=hv;intro c hc;rcases bp.1 hc with hc | hc
  ·exact V.one ha c hc
  ·exact V.one hb c hc
 | .ptr ..,_,hv=>by simp only[V]at hv;obtain⟨a,rfl,_⟩:=hv;simp[dm]
 | .eG ..,_,hv=>by simp only[V]at hv;obtain⟨_,_,_,rfl,_⟩:=hv;simp[dm]
 | .cM ..,_,hv=>by simp only[V]at hv;obtain⟨_,_,rfl,_⟩:=hv;simp[dm]
 | .fn ..,_,hv=>by simp only[V]at hv;obtain⟨_,rfl,_⟩:=hv;simp[dm]
 | .cons _ _,_,hv=>by simp only[V]at hv
 | .nil,_,hv=>by simp only[V]at hv
 | .vec ..,_,hv=>by simp only[V]at hv
 | .bx ..,_,hv=>by simp only[V]at hv
 | .dM ..,_,hv=>by simp only[V]at hv;obtain⟨_,rfl,_⟩:=hv;simp[dm]
 | .mp ..,_,hv | .qa ..,_,hv=>by simp only[V]at hv
theorem aF.afP:∀ {v:aF},v.agg=aV->v.size=1
 | .d (.int _) _,_ | .d .bool _,_ | .d .str _,_ | .d (.slice _) _,_ | .d (.fX _) _,_ | .d (.nL _) _,_ | .d (.gR _) _,_=>rfl
 | .d .unit _,h | .d (.pair _ _) _,h | .d (.arr _ _) _,h=>by simp[aF.agg,Ty.agg]at h
 | .pr _ _,h=>by simp[aF.agg]at h
 | .undef,_ | .gone,_ | .dd,_ | .jW,_ | .vB,_ | .AL,_ | .ptr ..,_ | .eG ..,_ | .cM ..,_ | .fn ..,_ | .cons ..,_ | .nil,_ | .vec ..,_ | .sb _,_ | .bx ..,_ | .dM ..,_ | .mp ..,_ | .qa ..,_ | .yl ..,_ | .uN ..,_=>rfl
def VS(E:Env):aF->Value->Prop
 | .undef,_=>True
 | .cons a b,v=>∃vs,v= .tuple vs.toArray/\VC E (.cons a b) vs
 | .nil,v=>v= .tuple #[]
 |a,v=>∃cs,V E a cs/\fT a.agg cs v
theorem VS.mono{E E':Env}(h:cP E E'):∀ {a:aF} {v:Value},VS E a v->VS E' a v:=by
 intro a v hv
 cases a <;> first
  |trivial
  |exact hv
  | (obtain⟨cs,h1,h2⟩:=hv;exact⟨cs,V.mono h h1,h2⟩)
  | (obtain⟨vs,e,hc⟩:=hv;exact⟨vs,e,VC.mono h hc⟩)
theorem VS.undef{E:Env}{v:Value}:VS E .undef v:=trivial
theorem VS.of{E:Env}{a:aF}{cs:List Value}{v:Value}(h:V E a cs)(ho:fT a.agg cs v):VS E a v:=by
 cases a <;> first
  | (simp only[V]at h;done)
  |exact⟨cs,h,ho⟩
theorem VS.eJ{E:Env}{a:aF}{v:Value}(h:VS E a v)(hc:a.eJ=aO):∃cs,V E a cs/\fT a.agg cs v:=by
 cases a <;> first
  | (simp[aF.eJ]at hc;done)
  |exact h
theorem VS.single{E:Env}{a:aF}{v:Value}(h:VS E a v)(hc:a.eJ=aO)(ha:a.agg=aV):V E a [v]:=by obtain⟨cs,hv,ho⟩:=h.eJ hc;rw[ha]at ho;have:cs=[v]:=ho;rw[<-this];exact hv
theorem fT.cells{agg:Bool}{cs:List Value}{v:Value}(h:fT agg cs v)(h1:∀c∈cs,c.oneCell'=aO):v.cells=cs.toArray:=by
 cases agg with
 |true=>have:v= .agg cs.toArray:=h;rw[this];rfl
 |false=>
  have e:cs=[v]:=h;have:=h1 v (by simp[e]);rw[e];cases v <;> first | rfl | (simp[dm]at this;done)
end Go.Ab
namespace Go.Ab
section
variable {α β:Type}
theorem ay{a b:α}:(Out.ok a).eval=au b↔a=b:=by simp[Out.eval]
theorem av{b:α}:(Out.fail:Out α).eval=au b↔False:=by simp[Out.eval]
theorem bQ{c:Bool}{r:Out α}{b:α}:(Out.si c r).eval=au b↔c=aO/\r.eval=au b:=by cases c <;> simp[Out.eval]
theorem aI{c:Bool}{r:Out α}{b:α}:(Out.guard c r).eval=au b↔c=aO/\r.eval=au b:=by cases c <;> simp[Out.guard,Out.eval]
theorem lI{x:Option β}{f:β->Out α}{b:α}:(Out.get x f).eval=au b↔∃y,x=au y/\(f y).eval=au b:=by cases x <;> simp[Out.eval]
theorem jd{x:Option α}{b:α}:(Out.opt x).eval=au b↔x=au b:=by cases x <;> simp[Out.opt,Out.eval]
theorem ZO(o:Out α)(f:α->Out β):(o.bind f).eval=o.eval.bind λa=>(f a).eval:=by
 induction o with
 |ok a=>rfl
 |fail=>rfl
 |si c r ih=>cases c <;> simp[Out.bind,Out.eval,ih]
 |get x g ih=>cases x <;> simp[Out.bind,Out.eval,ih]
 |br c x y ih1 ih2=>cases c <;> simp[Out.bind,Out.eval,ih1,ih2]
theorem aw{o:Out α}{f:α->Out β}{b:β}:(o.bind f).eval=au b↔∃a,o.eval=au a/\(f a).eval=au b:=by rw[ZO];simp[Option.bind_eq_some_iff]
theorem run_eq{R:Type}(o:Out α)(k:α->Option R):o.run k=o.eval.bind k:=by
 induction o with
 |ok a=>rfl
 |fail=>rfl
 |si c r ih=>cases c <;> simp[Out.run,Out.eval,aP,ih]
 |get x g ih=>cases x <;> simp[Out.run,Out.eval,ax,ih]
 |br c x y ih1 ih2=>cases c <;> simp[Out.run,Out.eval,aP,ih1,ih2]
theorem gT{R:Type}{o:Out α}{k:α->Option R}{r:R}:o.run k=au r↔∃a,o.eval=au a/\k a=au r:=by rw[run_eq];simp[Option.bind_eq_some_iff]
end
theorem jb{t t':Ty}{x:t.den}{y:t'.den}(h:sh t t' x=au y):∃e:t=t',e▸x=y:=by
 unfold sh at h;split at h
 ·rename_i e;exact⟨e,by simpa using h⟩
 ·cases h
theorem bq.map{α β:Type}{R:List Value->α->Prop}{R':List Value->β->Prop}{f:α->β}(h:∀c x,R c x->R' c (f x)):∀ {cs:List Value} {l:List α},bq R cs l->bq R' cs (l.map f)
 |_,[],hc=>hc
 |_,x::xs,⟨c,cs',e,hx,hr⟩=>⟨c,cs',e,h c x hx,bq.map h hr⟩
theorem cG.aDt{E:Env}:∀(a b:Ty) (f:a.den->b.den),VG a b=au f->∀(cs:List Value) (x:a.den),cG E a cs x->cG E b cs (f x):=by
 intro a b
 induction a,b using VG.induct with
 |case1 t=>
  intro f hf cs x hx;unfold VG at hf;rw[zJ rfl]at hf;obtain rfl:=aQ hf;simp only[cG]at hx;obtain⟨h1,h2⟩:=hx;show cG E (.slice t) cs ((x:Option (List t.den)).getD []);simp only[cG];cases hx:(x:Option (List t.den)) with
  |none=>exact⟨aH,0,[],h1 hx,aC _,λh=>absurd h (gX 0),λi v hh=>by simp at hh,rfl⟩
  |some l=>exact h2 l hx
 |case2 t t' gV=>
  intro f hf;unfold VG at hf;rw[zI gV]at hf;cases hf
 |case3 t=>
  intro f hf cs x hx;unfold VG at hf;rw[zJ rfl]at hf;obtain rfl:=aQ hf;simp only[cG]at hx ⊢;refine⟨λh=>(by cases h),λl hl=> ?_⟩;obtain rfl:x=l:=aQ hl;exact hx
 |case4 t t' gV=>
  intro f hf;unfold VG at hf;rw[zI gV]at hf;cases hf
 |case5 a b c d f g h1 h2 ih1 ih2=>
  intro k hk cs x hx;unfold VG at hk;rw[h2,h1]at hk;obtain rfl:=aQ hk;simp only[cG]at hx ⊢;obtain⟨ca,cb,e,ha,hb⟩:=hx;exact⟨ca,cb,e,ih1 f h2 ca x.1 ha,ih2 g h1 cb x.2 hb⟩
 |case6 a b c d hn ih1 ih2=>
  intro p hp;unfold VG at hp;split at hp
  ·rename_i f k h1 h2;exact(hn _ _ h1 h2).elim
  ·cases hp
 |case7 a b f h1 ih=>
  intro k hk cs x hx;unfold VG at hk;rw[h1]at hk;obtain rfl:=aQ hk;simp only[cG]at hx ⊢;obtain⟨ad,cap,vs,e,hl,hs,hr,hc⟩:=hx;rw[bg];exact⟨ad,cap,vs,e,hl,hs,hr,hc.map λc x hx=>ih f h1 c x hx⟩
 |case8 a b h1 ih=>
  intro p hp;unfold VG at hp;rw[h1]at hp;cases hp
 |case9 a h1 h2 h3 h4=>
  intro f hf cs x hx;rw[VG.eq_5 _ _ h1 h2 h3 h4,zJ rfl]at hf;obtain rfl:=aQ hf;exact hx
 |case10 a b h1 h2 h3 h4 gV=>
  intro f hf;rw[VG.eq_5 _ _ h1 h2 h3 h4,zI gV]at hf;cases hf
theorem axK{t t':Ty}{f:t.den->t'.den}(hp:VG t t'=au f):t.agg=t'.agg:=by
 unfold VG at hp;split at hp
 ·rfl
 ·rfl
 ·rfl
 ·rfl
 ·split at hp
  ·rename_i e;rw[e]
  ·cases hp
theorem Xf{t t':Ty}{x:t.den}{y:t'.den}(h:Ea t t' x=au y):t.agg=t'.agg:=by
 unfold Ea at h;split at h
 ·rename_i z hz;obtain⟨e,_⟩:=jb hz;rw[e]
 ·split at h
  ·rename_i f hf;exact axK hf
  ·cases h
theorem B4{E:Env}{t t':Ty}{x:t.den}{y:t'.den}(h:Ea t t' x=au y){cs:List Value}(hx:cG E t cs x):cG E t' cs y:=by
 unfold Ea at h;split at h
 ·rename_i z hz;obtain⟨e,hz⟩:=jb hz;subst e;obtain rfl:=aQ h;simp only at hz;rw[<-hz];exact hx
 ·split at h
  ·rename_i f hf;obtain rfl:=aQ h;exact cG.aDt _ _ f hf cs x hx
  ·cases h
theorem ane{E:Env}{t t':Ty}{x:List t.den}{y:List t'.den}(h:Ea (.slice t) (.slice t') x=au y):y.length=x.length/\∀vs,bq (cG E t) vs x->bq (cG E t') vs y:=by
 unfold Ea at h;split at h
 ·rename_i z hz;obtain⟨e,hz⟩:=jb hz;have e':t=t':=by simpa using e
  subst e';obtain rfl:=aQ h;simp only at hz;subst hz;exact⟨rfl,λ_ h=>h⟩
 ·split at h
  ·rename_i p hp;obtain rfl:=aQ h;unfold VG at hp;cases hd:VG t t' with
   |none=>rw[hd]at hp;cases hp
   |some q=>
    rw[hd]at hp;obtain rfl:=aQ hp;exact⟨bg _,λvs hc=>hc.map λc x hx=>cG.aDt _ _ q hd c x hx⟩
  ·cases h
def VO(E:Env):aF->List Value->Prop
 | .vec _ t l,cs=>bq (cG E t) cs l
 |a,cs=>V E a cs
theorem VO.of{E:Env}{a:aF}{cs:List Value}(h:V E a cs):VO E a cs:=by cases a <;> first | exact h | (simp only[V]at h)
def aF.ix:aF->Bool | .vec .. =>aO | .mp .. =>aO | .qa .. =>aO | .uN .. =>aO | _=>aV
theorem VO.to{E:Env}{a:aF}{cs:List Value}(h:VO E a cs)(hn:a.ix=aV):V E a cs:=by cases a <;> first | exact h | (simp[aF.ix]at hn)
theorem VO.mono{E E':Env}(h:cP E E'){a:aF}{cs:List Value}(hv:VO E a cs):VO E' a cs:=by cases a <;> first | exact V.mono h hv | exact bq.mono (λ_ _ hx=>hx.mono h.mem) hv
theorem Tk{t:Ty}{l:List t.den}{i:Nat}(h:i < l.length):nth t l i=l[i]:=by unfold nth;simp[h]
theorem Tz{α:Type}(cs:List α)(n m k j:Nat)(h:k+j<=m):(((cs.drop n).take m).drop k).take j=(cs.drop (n+k)).take j:=by rw[rR,jU,fU];congr 1;omega
theorem Lq{E:Env}{t:Ty}{cs:List Value}{l:List t.den}(h:bq (cG E t) cs l){i:Nat}(hi:i < l.length):
  cG E t ((cs.drop (i*t.size)).take t.size) l[i]/\i*t.size+t.size<=cs.length:=by
 have hz:∀c x,cG E t c x->c.length=t.size:=λc x hx=>hx.size
 refine⟨h.get hz i hi,?_⟩;rw[h.length hz,<-Nat.succ_mul];exact cT _ hi
theorem ri{E:Env}:∀(p:List Gs) (c:aF) (cs:List Value) (n:Nat) (v:aF),VO E c cs->(loc c p).eval=au (n,v)->
  (n=0/\v=c)\/(V E v ((cs.drop n).take v.size)/\n+v.size<=cs.length)
 |[],c,cs,n,v,hc,h=>by left;simp only[loc,ay,cF]at h;exact⟨h.1.symm,h.2.symm⟩
 |st::p,c,cs,n,v,hc,h=>by
  by_cases nw:st= .arr
  ·subst nw;have h':(loc c p).eval=au (n,v):=by cases c <;> simpa only[loc]using h
   exact ri p c cs n v hc h'
  right;have whole:∀(c':aF) (cs':List Value) (n':Nat) (v':aF),V E c' cs'->(loc c' p).eval=au (n',v')->V E v' ((cs'.drop n').take v'.size)/\n'+v'.size<=cs'.length:=by
   intro c' cs' n' v' hc' hl;rcases ri p c' cs' n' v' (VO.of hc') hl with⟨rfl,rfl⟩ | hh
   ·have:=hc'.size;rw[aN,bH aq];exact⟨hc',aq⟩
   ·exact hh
  have second:∀(a b:aF) (ca cb:List Value),cs=ca++cb->ca.length=a.size->V E b cb->((loc b p).bind λ(n,v)=>Out.ok (a.size+n,v)).eval=au (n,v)->
    V E v ((cs.drop n).take v.size)/\n+v.size<=cs.length:=by
   intro a b ca cb e hl hb hh;obtain⟨⟨n',v'⟩,h1,h2⟩:=aw.1 hh;simp only[ay,cF]at h2;obtain⟨rfl,rfl⟩:=h2;obtain⟨h3,h4⟩:=whole b cb n' v' hb h1;subst e;rw[<-hl,jM,gh aq,aT,jf];exact⟨h3,by simp only[ak];omega⟩
  have elem:∀(t:Ty) (l:List t.den) (i:Nat),bq (cG E t) cs l->(Out.si (decide (i < l.length)) ((loc (.d t (nth t l i)) p).bind λ(n,v)=>Out.ok (i*t.size+n,v))).eval=au (n,v)->
    V E v ((cs.drop n).take v.size)/\n+v.size<=cs.length:=by
   intro t l i uq hh;obtain⟨hi,hh⟩:=bQ.1 hh;have hi:i < l.length:=by simpa using hi
   obtain⟨⟨n',v'⟩,h1,h2⟩:=aw.1 hh;simp only[ay,cF]at h2;obtain⟨rfl,rfl⟩:=h2;obtain⟨hp,hle⟩:=Lq uq hi;rw[Tk hi]at h1;have hv:V E (.d t l[i]) ((cs.drop (i*t.size)).take t.size):=by simpa only[V]using hp
   obtain⟨h3,h4⟩:=whole _ _ n' v' hv h1;have hlen:((cs.drop (i*t.size)).take t.size).length=t.size:=hp.size;rw[Tz _ _ _ _ _ aq]at h3;exact⟨h3,aq⟩
  cases c with
  |pr a b=>
   simp only[VO,V]at hc;obtain⟨ca,cb,e,ha,hb⟩:=hc;cases st with
   |arr=>exact absurd rfl nw
   |fst=>
    simp only[loc]at h;obtain⟨h3,h4⟩:=whole a ca n v ha h;subst e;refine⟨?_,by simp only[ak];omega⟩;rw[jM,lF,cv,j5 (by omega:v.size<=ca.length - n),fb,bo];exact h3
   |snd=>simp only[loc]at h;exact second a b ca cb e ha.size hb h
   |idx i=>simp only[loc,av]at h
  |d t x=>
   simp only[VO,V]at hc;cases t with
   |pair ta tb=>
    simp only[cG]at hc;obtain⟨ca,cb,e,ha,hb⟩:=hc;cases st with
    |arr=>exact absurd rfl nw
    |fst=>
     simp only[loc]at h;obtain⟨h3,h4⟩:=whole (.d ta x.1) ca n v (by simpa only[V]using ha) h;subst e;refine⟨?_,by simp only[ak];omega⟩;rw[jM,lF,cv,j5 (by omega:v.size<=ca.length - n),fb,bo];exact h3
    |snd=>simp only[loc]at h;exact second (.d ta x.1) (.d tb x.2) ca cb e ha.size (by simpa only[V]using hb) h
    |idx i=>simp only[loc,av]at h
   |arr m t=>
    simp only[cG]at hc;cases st with
    |arr=>exact absurd rfl nw
    |idx i=>simp only[loc]at h;exact elem t x i hc.2 h
    |fst=>simp only[loc,av]at h
    |snd=>simp only[loc,av]at h
   |_=>cases st <;> first | exact absurd rfl nw | (simp only[loc,av]at h)
  |vec e t l=>
   simp only[VO]at hc;cases st with
   |arr=>exact absurd rfl nw
   |idx i=>simp only[loc]at h;exact elem t l i hc h
   |fst=>simp only[loc,av]at h
   |snd=>simp only[loc,av]at h
  |_=>cases st <;> first | exact absurd rfl nw | (simp only[loc,av]at h)
theorem agI{E:Env}{a b:aF}{ca cb:List Value}(ha:V E a ca)(hb:V E b cb):V E (Ku a b) (ca++cb):=by
 have gen:V E (.pr a b) (ca++cb):=by simp only[V];exact⟨ca,cb,rfl,ha,hb⟩
 unfold Ku;split
 ·simp only[V]at ha hb ⊢;simp only[cG];exact⟨ca,cb,rfl,ha,hb⟩
 ·exact gen
theorem O1(a b:aF):(Ku a b).ix=aV:=by unfold Ku;split <;> rfl
def dx(cs:List Value)(n:Nat)(vs:List Value):List Value:=cs.take n++vs++cs.drop (n+vs.length)
theorem ajL{cs vs:List Value}(h:cs.length=vs.length):dx cs 0 vs=vs:=by simp[dx,gh (by omega:cs.length<=vs.length)]
theorem Ag{ca cb vs:List Value}{n:Nat}(h:n+vs.length<=ca.length):dx (ca++cb) n vs=dx ca n vs++cb:=by unfold dx;rw[lF,jM,j5 (by omega:n<=ca.length),fb,bo,j5 h,aN];simp only[aK]
theorem LG{ca cb vs:List Value}{n:Nat}:dx (ca++cb) (ca.length+n) vs=ca++dx cb n vs:=by unfold dx;rw[lF,bH aq,jf,jM,gh aq,aT];simp only[aK];congr 4;omega
theorem ajM{cs vs:List Value}{i z n:Nat}(hz:i+z<=cs.length)(h:n+vs.length<=z):
  dx cs (i+n) vs=cs.take i++dx ((cs.drop i).take z) n vs++cs.drop (i+z):=by
 have e:cs=cs.take i++((cs.drop i).take z++cs.drop (i+z)):=by rw[<-fU,da,da]
 have hl:(cs.take i).length=i:=by simp;omega
 have hm:((cs.drop i).take z).length=z:=by simp;omega
 conv=>lhs;rw[e,show i+n=(cs.take i).length+n by rw[hl]]
 rw[LG,Ag aq];simp only[aK]
theorem jH{cs vs:List Value}{n:Nat}(h:n+vs.length<=cs.length):(dx cs n vs).length=cs.length:=by simp[dx];omega
def lG:aF->aF->Prop
 | .vec e t l,.vec e' t' l'=>e'=e/\t'=t/\l'.length=l.length
 | .vec ..,_=>False
 |_,.vec .. =>False
 | .mp ..,_ | .qa ..,_ | .uN ..,_=>False
 |_,.mp .. | _,.qa .. | _,.uN .. =>False
 |_,_=>True
theorem lG.sE{a b:aF}(h:lG a b)(ha:a.ix=aV):b.ix=aV:=by
 cases b <;> first
  |rfl
  | (cases a <;> first | (simp[aF.ix]at ha;done) | exact h.elim)
theorem lG.of{a b:aF}(ha:a.ix=aV)(hb:b.ix=aV):lG a b:=by
 cases a <;> first
  | (simp[aF.ix]at ha;done)
  | (cases b <;> first | trivial | (simp[aF.ix]at hb;done))
theorem V.sE{E:Env}{a:aF}{cs:List Value}(h:V E a cs):a.ix=aV:=by cases a <;> first | rfl | (simp only[V]at h)
theorem pI{E:Env}:∀(p:List Gs) (c:aF) (cs:List Value) (n:Nat) (o v c':aF) (vs:List Value),VO E c cs->(loc c p).eval=au (n,o)->V E v vs->
  (wF c p v).eval=au c'->n+vs.length<=cs.length/\VO E c' (dx cs n vs)/\
   lG c c'
 |[],c,cs,n,o,v,c',vs,hc,hl,hv,h=>by
  simp only[loc,ay,cF]at hl;obtain⟨rfl,rfl⟩:=hl
  have main:∀(aEV:c.ix=aV),(Out.guard (v.eJ && (c.size==v.size)) (.ok v)).eval=au c'->0+vs.length<=cs.length/\VO E c' (dx cs 0 vs)/\
   lG c c':=by
   intro aEV hg;obtain⟨h1,h2⟩:=aI.1 hg;obtain rfl:=ay.1 h2;simp only[al,dw]at h1;have e1:=(hc.to aEV).size;have e2:=hv.size;refine⟨aq,?_,?_⟩
   ·rw[ajL aq];exact VO.of hv
   ·exact lG.of aEV hv.sE
  cases c with
  |vec e t l=>simp only[wF,av]at h
  |mp k v l=>simp only[wF,av]at h
  |qa q ver k v rest cur=>simp only[wF,av]at h
  |uN k f p=>simp only[wF,av]at h
  |_=>exact main rfl (by simpa only[wF]using h)
 |st::p,c,cs,n,o,v,c',vs,hc,hl,hv,h=>by
  by_cases nw:st= .arr
  ·subst nw;have hl':(loc c p).eval=au (n,o):=by cases c <;> simpa only[loc]using hl
   have h':(wF c p v).eval=au c':=by cases c <;> simpa only[wF]using h
   exact pI p c cs n o v c' vs hc hl' hv h'
  have left:∀(a b:aF) (ca cb:List Value),cs=ca++cb->V E a ca->V E b cb->(loc a p).eval=au (n,o)->((wF a p v).bind λa'=>Out.ok (Ku a' b)).eval=au c'->
    n+vs.length<=cs.length/\VO E c' (dx cs n vs)/\c'.ix=aV:=by
   intro a b ca cb e ha hb hl hh;obtain⟨a',h1,h2⟩:=aw.1 hh;obtain rfl:=ay.1 h2;obtain⟨h3,h4,h5⟩:=pI p a ca n o v a' vs (VO.of ha) hl hv h1;subst e;refine⟨by simp only[ak];omega,?_,O1 _ _⟩;rw[Ag h3];have aGI:a'.ix=aV:=h5.sE ha.sE;exact VO.of (agI (h4.to aGI) hb)
  have right:∀(a b:aF) (ca cb:List Value),cs=ca++cb->ca.length=a.size->V E a ca->V E b cb->((loc b p).bind λ(n,v)=>Out.ok (a.size+n,v)).eval=au (n,o)->
    ((wF b p v).bind λb'=>Out.ok (Ku a b')).eval=au c'->n+vs.length<=cs.length/\VO E c' (dx cs n vs)/\c'.ix=aV:=by
   intro a b ca cb e as5 ha hb hl hh;obtain⟨⟨n',v'⟩,h1,h2⟩:=aw.1 hl;simp only[ay,cF]at h2;obtain⟨rfl,rfl⟩:=h2;obtain⟨b',h3,h4⟩:=aw.1 hh;obtain rfl:=ay.1 h4;obtain⟨h5,h6,h7⟩:=pI p b cb n' v' v b' vs (VO.of hb) h1 hv h3;subst e;refine⟨by simp only[ak];omega,?_,O1 _ _⟩;rw[<-as5,LG];have aGI:b'.ix=aV:=h7.sE hb.sE;exact VO.of (agI ha (h6.to aGI))
  have elem:∀(t:Ty) (l:List t.den) (i:Nat) (mk:List t.den->aF),bq (cG E t) cs l->(Out.si (decide (i < l.length)) ((loc (.d t (nth t l i)) p).bind λ(n,v)=>Out.ok (i*t.size+n,v))).eval=au (n,o)->
    (Out.si (decide (i < l.length)) ((wF (.d t (nth t l i)) p v).bind fun
     | .d t' y=>(Out.opt (sh t' t y)).bind λy=> .ok (mk (l.set i y))
     |_=> .fail)).eval=au c'->
    n+vs.length<=cs.length/\∃l',c'=mk l'/\l'.length=l.length/\bq (cG E t) (dx cs n vs) l':=by
   intro t l i mk uq hl hh;obtain⟨hi,hl⟩:=bQ.1 hl;have hi:i < l.length:=by simpa using hi
   obtain⟨⟨n',v'⟩,h1,h2⟩:=aw.1 hl;simp only[ay,cF]at h2;obtain⟨rfl,rfl⟩:=h2;obtain⟨_,hh⟩:=bQ.1 hh;obtain⟨w,h3,h4⟩:=aw.1 hh;obtain⟨hp,hle⟩:=Lq uq hi;rw[Tk hi]at h1 h3;have aCl:V E (.d t l[i]) ((cs.drop (i*t.size)).take t.size):=by simpa only[V]using hp
   have hlen:((cs.drop (i*t.size)).take t.size).length=t.size:=hp.size;obtain⟨h5,h6,h7⟩:=pI p _ _ n' v' v w vs (VO.of aCl) h1 hv h3;cases w with
   |d t' y=>
    simp only at h4;obtain⟨y',h8,h9⟩:=aw.1 h4;obtain⟨rfl,h8⟩:=jb (jd.1 h8);simp only at h8;subst h8;obtain rfl:=ay.1 h9;refine⟨aq,_,rfl,by simp,?_⟩;have hy:cG E t' (dx ((cs.drop (i*t'.size)).take t'.size) n' vs) y:=by simpa only[VO,V]using h6
    have:=bq.set (λc x hx=>cG.size hx) uq i hi hy;rw[ajM (by omega:i*t'.size+t'.size<=cs.length) aq];rwa[hy.size]at this
   |_=>simp only[av]at h4
  cases c with
  |pr a b=>
   simp only[VO,V]at hc;obtain⟨ca,cb,e,ha,hb⟩:=hc;cases st with
   |arr=>exact absurd rfl nw
   |fst=>
    simp only[loc]at hl;simp only[wF]at h;obtain⟨r1,r2,r3⟩:=left a b ca cb e ha hb hl h;exact⟨r1,r2,lG.of rfl r3⟩
   |snd=>
    simp only[loc]at hl;simp only[wF]at h;obtain⟨r1,r2,r3⟩:=right a b ca cb e ha.size ha hb hl h;exact⟨r1,r2,lG.of rfl r3⟩
   |idx i=>simp only[loc,av]at hl
  |d t x=>
   simp only[VO,V]at hc;cases t with
   |pair ta tb=>
    simp only[cG]at hc;obtain⟨ca,cb,e,ha,hb⟩:=hc;have ha':V E (.d ta x.1) ca:=by simpa only[V]using ha
    have hb':V E (.d tb x.2) cb:=by simpa only[V]using hb
    cases st with
    |arr=>exact absurd rfl nw
    |fst=>
     simp only[loc]at hl;simp only[wF]at h;obtain⟨r1,r2,r3⟩:=left _ _ ca cb e ha' hb' hl h;exact⟨r1,r2,lG.of rfl r3⟩
    |snd=>
     simp only[loc]at hl;simp only[wF]at h;obtain⟨r1,r2,r3⟩:=right (.d ta x.1) (.d tb x.2) ca cb e ha.size ha' hb' hl h;exact⟨r1,r2,lG.of rfl r3⟩
    |idx i=>simp only[loc,av]at hl
   |arr m t=>
    simp only[cG]at hc;cases st with
    |arr=>exact absurd rfl nw
    |idx i=>
     simp only[loc]at hl;simp only[wF]at h;obtain⟨r1,l',e,r2,r3⟩:=elem t x i (λl=> .d (.arr m t) l) hc.2 hl h;subst e;refine⟨r1,?_,trivial⟩;simp only[VO,V,cG];exact⟨by rw[r2];exact hc.1,r3⟩
    |fst=>simp only[loc,av]at hl
    |snd=>simp only[loc,av]at hl
   |_=>cases st <;> first | exact absurd rfl nw | (simp only[loc,av]at hl)
  |vec e t l=>
   simp only[VO]at hc;cases st with
   |arr=>exact absurd rfl nw
   |idx i=>
    simp only[loc]at hl;simp only[wF]at h;obtain⟨r1,l',e',r2,r3⟩:=elem t l i (λl=> .vec e t l) hc hl h;subst e';exact⟨r1,by simpa only[VO]using r3,rfl,rfl,r2⟩
   |fst=>simp only[loc,av]at hl
   |snd=>simp only[loc,av]at hl
  |_=>cases st <;> first | exact absurd rfl nw | (simp only[loc,av]at hl)
end Go.Ab
namespace Go.Ab
def aBf(E:Env)(id:Id)(fr:Bool)(e:TypeId)(t:Ty)(l:List t.den):Prop:=
 0 < t.size/\match E.β id with
  |none=>l=[]
  |some pl=>∃cur k,E.w.heap[pl.b]? =au (.cells cur e (0,0))/\cur.size=pl.cap*t.size/\l.length<=pl.cap/\pl.cap<=maxLen/\E.g pl.b= .own (.id id) k/\
    k<=l.length*t.size/\(fr=aV->k=0)/\bq (cG E t) (cur.toList.take (l.length*t.size)) l
def aF.DQ:aF->Pl->Nat->TypeId->Prop
 | .bx e' 0 _,_,_,e=>e=e'
 | .bx e' (z+1) c,pl,n,e=>e=e'/\n=pl.cap*(z+1)/\pl.cap<=maxLen/\c.size<=n
 |_,_,_,_=>True
def aF.vc:aF->Nat->Nat
 | .bx _ (_+1) c,_=>c.size
 |_,n=>n
def aF.VL:aF->Bool | .bx .. =>aO | _=>aV
theorem V.yR{E:Env}{a:aF}{cs:List Value}(h:V E a cs):a.VL=aV:=by cases a <;> first | rfl | (simp only[V]at h)
theorem NM{c:aF}(h:c.VL=aV):c.strip=c:=by cases c <;> first | rfl | (simp[aF.VL]at h)
theorem Mr{c:aF}(h:c.VL=aV)(pl:Pl)(n:Nat)(e:TypeId):c.DQ pl n e:=by cases c <;> first | trivial | (simp[aF.VL]at h)
theorem Q6{c:aF}(h:c.VL=aV)(n:Nat):c.vc n=n:=by cases c <;> first | rfl | (simp[aF.VL]at h)
theorem IQ(c:aF){c':aF}(h:c'.VL=aV):(c.wrap c').strip=c':=by cases c <;> first | rfl | exact NM h
theorem HA{c c':aF}{pl:Pl}{n:Nat}{e:TypeId}(hc:c.DQ pl n e)(h:c'.VL=aV)(hs:c'.size=c.strip.size):(c.wrap c').DQ pl n e:=by
 cases c with
 |bx e' z c=>cases z with
  |zero=>exact hc
  |succ z=>exact⟨hc.1,hc.2.1,hc.2.2.1,by rw[hs];exact hc.2.2.2⟩
 |_=>exact Mr h pl n e
theorem Mq{c c':aF}{n:Nat}(h:c'.VL=aV)(hs:c'.size=c.strip.size):(c.wrap c').vc n=c.vc n:=by
 cases c with
 |bx e' z c=>cases z with
  |zero=>rfl
  |succ z=>exact hs
 |_=>exact Q6 h n
theorem Qo{c:aF}{pl:Pl}{n:Nat}{e:TypeId}(h:c.DQ pl n e):c.vc n<=n:=by
 cases c with
 |bx e' z c=>cases z with
  |zero=>exact aC _
  |succ z=>exact h.2.2.2
 |_=>exact aC _
def ag1(id:Id)(fr:Bool):lA:=match fr with | true=> .free | false=> .own (.id id) 0
def Mb(E:Env)(id:Id)(fr:Bool)(c:aF):Prop:=∃pl cur e,E.β id=au pl/\E.w.heap[pl.b]? =au (.cells cur e (0,0))/\E.g pl.b=ag1 id fr/\c.DQ pl cur.size e/\V E c.strip (cur.toList.take (c.vc cur.size))
def Alike{α β:Type}(R:α->β->Prop):List α->List β->Prop
 |[],[]=>True
 |x::xs,y::ys=>R x y/\Alike R xs ys
 |_,_=>False
theorem Alike.mono{α β:Type}{R R':α->β->Prop}(h:∀x y,R x y->R' x y):∀ {xs:List α} {ys:List β},Alike R xs ys->Alike R' xs ys
 |[],[],_=>trivial
 |_::_,_::_,⟨h1,h2⟩=>⟨h _ _ h1,Alike.mono h h2⟩
 |[],_::_,h=>h.elim
 |_::_,[],h=>h.elim
def A9(E:Env)(t:Ty)(v:Value)(x:t.den):Prop:=∃cs,cG E t cs x/\fT t.agg cs v
def BT(E:Env)(kt vt:Ty)(e:fO)(x:kt.den×vt.den):Prop:=A9 E kt e.key x.1/\A9 E vt e.val x.2
theorem BT.mono{E E':Env}(h:rS E E'){kt vt:Ty}{e:fO}{x:kt.den×vt.den}(he:BT E kt vt e x):BT E' kt vt e x:=
 let⟨⟨c1,a1,b1⟩,c2,a2,b2⟩:=he
 ⟨⟨c1,a1.mono h,b1⟩,c2,a2.mono h,b2⟩
def YY(E:Env)(kt vt:Ty)(es:List fO)(l:List (kt.den×vt.den)):Prop:=∃l',Alike (BT E kt vt) es l'/\l'.Perm l
theorem YY.mono{E E':Env}(h:rS E E'){kt vt:Ty}{es:List fO}{l:List (kt.den×vt.den)}(hm:YY E kt vt es l):YY E' kt vt es l:=
 let⟨l',h1,h2⟩:=hm
 ⟨l',h1.mono λ_ _ he=>he.mono h,h2⟩
def nN(es:List fO)(clock:Nat):Prop:=(es.map (·.born)).Nodup/\∀e∈es,e.born < clock
theorem nN.nil(n:Nat):nN [] n:=⟨ja,λ_ h=>(by cases h)⟩
theorem nN.push{es:List fO}{clock:Nat}(h:nN es clock){e:fO}(he:e.born=clock):nN (es++ [e]) (clock+1):=by
 refine⟨?_,λx hx=> ?_⟩
 ·rw[ji,km];refine⟨h.1,by simp,λa ha b hb=> ?_⟩;obtain⟨x,hx,rfl⟩:=cr.1 ha;have:=h.2 x hx;simp only[bn,eF,bf]at hb;omega
 ·rcases bp.1 hx with hx | hx
  ·have:=h.2 x hx;omega
  ·rw[bf]at hx;subst hx;omega
theorem nN.erase{es:List fO}{clock:Nat}(h:nN es clock)(j:Nat):nN (es.eraseIdx j) clock:=⟨h.1.sublist ((List.eraseIdx_sublist es j).map _),λx hx=>h.2 x ((List.eraseIdx_sublist es j).subset hx)⟩
theorem nN.set{es:List fO}{clock:Nat}(h:nN es clock){j:Nat}{e x:fO}(hj:es[j]? =au e)(hx:x.born=e.born):nN (es.set j x) clock:=by
 have iJ:=(dF.1 hj).1;have aIt:=(dF.1 hj).2;have e1:(es.set j x).map (·.born)=es.map (·.born):=by
  rw[List.map_set,hx,<-aIt];have:es[j].born=(es.map (·.born))[j]'(by simpa using iJ):=by simp
  rw[this,fJ]
 refine⟨by rw[e1];exact h.1,λy hy=> ?_⟩;rcases List.mem_or_eq_of_mem_set hy with hy | hy
 ·exact h.2 y hy
 ·rw[hy,hx,<-aIt];exact h.2 _ (aZ iJ)
def aGo(E:Env)(id:Id)(kt vt:Ty)(l:List (kt.den×vt.den)):Prop:=
 ∃pl es clock,E.β id=au pl/\E.w.heap[pl.b]? =au (.map es clock)/\E.g pl.b= .own (.id id) 0/\(YY E kt vt es.toList l/\(l.map (·.1)).Nodup)/\nN es.toList clock
def aBb(E:Env)(i q:Id)(ver:Nat)(kt vt:Ty)(rest:List (kt.den×vt.den))(cur:Option (kt.den×vt.den)):Prop:=
 ∃pl mb since seen c0,E.β i=au pl/\E.w.heap[pl.b]? =au (.mapIter (au mb) since seen c0)/\E.g pl.b= .own (.id i) 0/\∀vr,ver=vr+1->E.C8 q vr/\
  (E.cur q vr->(∃k v l,E.s q=au (.obj vr aO (.mp k v l)))/\∃plq es clock,E.β q=au plq/\plq.b=mb/\E.w.heap[plq.b]? =au (.map es clock)/\E.g plq.b= .own (.id q) 0/\
   (∀x∈es.toList,x.born < since)/\(since<=c0/\since<=clock)/\(es.toList.map (·.born)).Nodup/\YY E kt vt (es.toList.filter λe=> !seen.contains e.born) rest/\
   ∀x,cur=au x->∃(e:fO) (seen':Array Nat),e∈es.toList/\seen=seen'.push e.born/\c0=clock/\BT E kt vt e x)
def afq:Nat->LoopState->Option Code->Prop
 | 0,st,pe=>st= .ready/\pe=aH
 | 1,st,_=>st= .busy
 | 2,st,pe=>st= .done/\pe=au .ret
 |n+3,st,pe=>st= .done/\pe=au (.exit n)
def BU(E:Env)(f:aF)(tmps:Array Value):Prop:=f.list.length=tmps.size/\∀i,VS E (f.list.getD i .undef) (tmps.getD i undef)
def aGq(E:Env)(id:Id)(c:tm)(f:aF)(p:Nat):Prop:=∃pl r,E.β id=au pl/\E.w.heap[pl.b]? =au (.loop r)/\E.g pl.b= .own (.id id) 0/\(r.params=c.ps/\r.assign=c.as/\r.body=c.b)/\BU E f r.tmps/\afq p r.state r.pending
def u6(E:Env)(id:Id)(fr:Bool):aF->Prop
 | .uN c f p=>aGq E id c f p
 | .vec e t l=>aBf E id fr e t l
 | .mp kt vt l=>aGo E id kt vt l
 | .qa q ver kt vt rest cur=>aBb E id q ver kt vt rest cur
 |c=>Mb E id fr c
theorem u6.box{E:Env}{id:Id}{fr:Bool}{c:aF}(h:u6 E id fr c)(hn:c.ix=aV):Mb E id fr c:=by cases c <;> first | exact h | (simp[aF.ix]at hn)
theorem Mb.obj{E:Env}{id:Id}{fr:Bool}{c:aF}(h:Mb E id fr c):u6 E id fr c:=by cases c <;> first | exact h | (obtain⟨_,_,_,_,_,_,_,hv⟩:=h;simp only[aF.strip,V]at hv)
def iR(E:Env):Prop:=∀id ver fr c,E.s id=au (.obj ver fr c)->u6 E id fr c
structure Trans(w w':bV)(g g':Nat->lA):Prop where
 os:w'.os=w.os
 tape:w'.tape=w.tape
 output:w'.output=w.output/\w.drawn<=w'.drawn
 size:w.heap.size<=w'.heap.size
 Mn:∀b,b < w.heap.size->match g b with
  | .free=>g' b= .free/\w'.heap[b]? =w.heap[b]?
  | .own .ez k=>g' b= .own .ez k/\w'.heap[b]? =w.heap[b]?
  | .own (.id _) k=>(g' b= .free\/∃i k',g' b= .own (.id i) k'/\k<=k')/\∀off v,off < k->w.cell? ⟨b,off,aH⟩=au v->w'.cell? ⟨b,off,aH⟩=au v
theorem Trans.refl(w:bV)(g:Nat->lA):Trans w w g g:=
 ⟨rfl,rfl,⟨rfl,aC _⟩,aC _,λb _=>by
  cases g b with
  |free=>exact⟨rfl,rfl⟩
  |own o k=>cases o with
   |ez=>exact⟨rfl,rfl⟩
   |id i=>exact⟨.inr ⟨i,k,rfl,aC _⟩,λ_ _ _ h=>h⟩⟩
theorem Trans.trans{w w' w'':bV}{g g' g'':Nat->lA}(h:Trans w w' g g')(h':Trans w' w'' g' g''):Trans w w'' g g'':=by
 refine⟨h'.os.trans h.os,h'.tape.trans h.tape,⟨h'.output.1.trans h.output.1,ko h.output.2 h'.output.2⟩,ko h.size h'.size,λb hb=> ?_⟩;have h1:=h.Mn b hb;have h2:=h'.Mn b (Nat.lt_of_lt_of_le hb h.size);cases hg:g b with
 |free=>
  rw[hg]at h1;simp only at h1 ⊢;rw[h1.1]at h2;simp only at h2;exact⟨h2.1,h2.2.trans h1.2⟩
 |own o k=>
  cases o with
  |ez=>
   rw[hg]at h1;simp only at h1 ⊢;rw[h1.1]at h2;simp only at h2;exact⟨h2.1,h2.2.trans h1.2⟩
  |id i=>
   rw[hg]at h1;simp only at h1 ⊢;obtain⟨aEn,aIe⟩:=h1;rcases aEn with aEn | ⟨i',k',aEn,hk⟩
   ·rw[aEn]at h2;simp only at h2;exact⟨.inl h2.1,λoff v ho hv=>by
     have:=aIe off v ho hv;simpa only[eI,h2.2]using this⟩
   ·rw[aEn]at h2;simp only at h2;refine⟨?_,λoff v ho hv=>h2.2 off v aq (aIe off v ho hv)⟩;rcases h2.1 with aGF | ⟨i'',k'',aGF,hk'⟩
    ·exact .inl aGF
    ·exact .inr ⟨i'',k'',aGF,aq⟩
theorem Trans.mem{E E':Env}(h:Trans E.w E'.w E.g E'.g):rS E E':=by
 refine⟨?_,λb ob hf ho=>by
  have h1:=h.Mn b (bN.1 ho).1;rw[hf]at h1;exact⟨h1.1,h1.2.trans ho⟩⟩
 intro b off v ⟨hc,ho⟩;have hb:b < E.w.heap.size:=World.block_lt_of_cell? _ _ hc;have h1:=h.Mn b hb;unfold Env.has rH at*;cases hg:E.g b with
 |free=>
  rw[hg]at h1;simp only at h1;refine⟨?_,by rw[h1.1];trivial⟩;simpa only[eI,h1.2]using hc
 |own o k=>
  rw[hg]at ho;simp only at ho;cases o with
  |ez=>
   rw[hg]at h1;simp only at h1;refine⟨?_,by rw[h1.1];exact ho⟩;simpa only[eI,h1.2]using hc
  |id i=>
   rw[hg]at h1;simp only at h1;refine⟨h1.2 off v ho hc,?_⟩;rcases h1.1 with h2 | ⟨i',k',h2,hk⟩
   ·rw[h2];trivial
   ·rw[h2];show off < k';omega
theorem BU.mono{E E':Env}(h:cP E E'){f:aF}{tmps:Array Value}(hs:BU E f tmps):BU E' f tmps:=⟨hs.1,λi=>(hs.2 i).mono h⟩
theorem u6.aAM{E E':Env}(h:cP E E'){id:Id}{fr:Bool}{c:aF}(ho:u6 E id fr c)(hβ:E'.β id=E.β id)
    (hb:∀pl,E.β id=au pl->E'.w.heap[pl.b]? =E.w.heap[pl.b]? /\E'.g pl.b=E.g pl.b)
    (hq:∀q ver k v l,(∃kt vt rest cu,c= .qa q (ver+1) kt vt rest cu)->E.s q=au (.obj ver aO (.mp k v l))->E'.cur q ver->(∃k v l,E'.s q=au (.obj ver aO (.mp k v l)))/\∀pl,E.β q=au pl->E'.w.heap[pl.b]? =E.w.heap[pl.b]? /\E'.g pl.b=E.g pl.b):u6 E' id fr c:=by
  by_cases hn:c.ix=aV
  · obtain⟨pl,cur,e,h1,h2,h3,h5,h4⟩:=ho.box hn
    obtain⟨b1,b2⟩:=hb pl h1;exact Mb.obj ⟨pl,cur,e,by rw[hβ,h1],by rw[b1,h2],by rw[b2,h3],h5,h4.mono h⟩
  · cases c <;> first
      | (exact absurd rfl hn)
      | (obtain⟨pl,r,h1,h2,h3,h4,h5,h6⟩:=ho
         obtain⟨b1,b2⟩:=hb pl h1;exact⟨pl,r,by rw[hβ,h1],by rw[b1,h2],by rw[b2,h3],h4,h5.mono h,h6⟩)
      | (obtain⟨pl,es,clock,h1,h2,h3,h4⟩:=ho
         obtain⟨b1,b2⟩:=hb pl h1;exact⟨pl,es,clock,by rw[hβ,h1],by rw[b1,h2],by rw[b2,h3],⟨h4.1.1.mono h.mem,h4.1.2⟩,h4.2⟩)
      | (obtain⟨pl,mb,since,seen,c0,h1,h2,h3,hv⟩:=ho
         obtain⟨b1,b2⟩:=hb pl h1;refine⟨pl,mb,since,seen,c0,by rw[hβ,h1],by rw[b1,h2],by rw[b2,h3],λvr agw=> ?_⟩;obtain⟨h4,h5⟩:=hv vr agw;refine⟨h.C8 _ _ h4,λhc=> ?_⟩;obtain⟨c1,e1⟩:=h.cur _ _ h4 hc;obtain⟨⟨k,v,l,hk⟩,plq,es,clock,g1,g2,g3,g4,g5,g6,g7,g8,g9⟩:=h5 c1;obtain⟨q1,q2⟩:=hq _ _ _ _ _ ⟨_,_,_,_,by rw[agw]⟩ hk hc;obtain⟨q3,q4⟩:=q2 plq g1;exact⟨q1,plq,es,clock,by rw[e1,g1],g2,by rw[q3,g3],by rw[q4,g4],g5,g6,g7,g8.mono h.mem,λx hx=>
           let⟨e,se,a1,a2,a3,a4⟩:=g9 x hx
           ⟨e,se,a1,a2,a3,a4.mono h.mem⟩⟩)
      |skip
    rename_i e t l;obtain⟨hz,ho⟩:=ho;refine⟨hz,?_⟩;rw[hβ];cases hp:E.β id with
    |none=>rw[hp]at ho;exact ho
    |some pl=>
      rw[hp]at ho;simp only at ho ⊢;obtain⟨b1,b2⟩:=hb pl hp;obtain⟨cur,k,h1,h2,h3,h4,h5,h6,h7,h8⟩:=ho;exact⟨cur,k,by rw[b1,h1],h2,h3,h4,by rw[b2,h5],h6,h7,h8.mono λc x hx=>hx.mono h.mem⟩
theorem u6.mono{E E':Env}(h:cP E E'){id:Id}{fr:Bool}{c:aF}(ho:u6 E id fr c)(hβ:E'.β id=E.β id)(hb:∀pl,E.β id=au pl->E'.w.heap[pl.b]? =E.w.heap[pl.b]? /\E'.g pl.b=E.g pl.b)(hq:∀q ver k v l,E.s q=au (.obj ver aO (.mp k v l))->E'.cur q ver->(∃k v l,E'.s q=au (.obj ver aO (.mp k v l)))/\∀pl,E.β q=au pl->E'.w.heap[pl.b]? =E.w.heap[pl.b]? /\E'.g pl.b=E.g pl.b):u6 E' id fr c:=ho.aAM h hβ hb λq ver k v l _=>hq q ver k v l
def AS.env(s:AS)(w:bV)(g:Nat->lA)(β:Id->Option Pl):Env:= {w,g,β,s:=s.bS}
structure Ctx where
 E:Env
def Ctx.ok(C:Ctx):Prop:=(∀i j,C.E.s (.new i j)=aH)/\∀k v fr c,C.E.s (.bF k)=au (.obj v fr c)->v=0
def tI(D:Nat):Deferred:= {target:= .collected D,args:= #[]}
def akj(n:Nat)(ds:List Deferred)(w:bV)(g:Nat->lA):Prop:=ds.Nodup/\∀d∈ds,∃D,d=tI D/\n<=D/\w.heap[D]? =au (.deferred (au []))/\g D= .own .ez 0
theorem akj.mono{n:Nat}{ds:List Deferred}{w w':bV}{g g':Nat->lA}(h:akj n ds w g)(ht:Trans w w' g g'):akj n ds w' g':=
 ⟨h.1,λd hd=>by
  obtain⟨D,h1,h2,h3,h4⟩:=h.2 d hd;have:=ht.Mn D (bN.1 h3).1;rw[h4]at this;exact⟨D,h1,h2,this.2.trans h3,this.1⟩⟩
structure Inv(C:Ctx)(g:Nat->lA)(β:Id->Option Pl)(s:AS)(a:Act)(w:bV):Prop where
 defers:akj C.E.w.heap.size a.defers w g
 size:a.tmps.size=s.cn.length
 cn:∀i,VS (s.env w g β) (s.slot i) (a.tmps.getD i undef)
 bM:iR (s.env w g β)
 trans:Trans C.E.w w C.E.g g
 le:cP C.E (s.env w g β)
def gW(C:Ctx)(s:AS)(a:Act)(w:bV):Prop:=∃g β,Inv C g β s a w
theorem Uy(s:AS)(d:Nat)(v:aF)(i:Nat):(s.put (au d) v).slot i=if i=d/\d < s.cn.length then v else s.slot i:=by
 simp only[AS.put,AS.slot,aJ,List.getElem?_set];by_cases h:d=i
 ·subst h;by_cases hl:d < s.cn.length
  ·simp[hl]
  ·simp[hl]
 ·simp[h,Ne.symm h]
@[simp] theorem F1(s:AS)(d:Option Tmp)(v:aF):(s.put d v).bS=s.bS:=by cases d <;> rfl
@[simp] theorem ZN(s:AS)(d:Option Tmp)(v:aF)(w:bV)(g:Nat->lA)(β:Id->Option Pl):(s.put d v).env w g β=s.env w g β:=by simp[AS.env]
theorem af7(a:Act)(d:Nat)(v:Value)(i:Nat):(a.put (au d) v).tmps.getD i undef=if i=d/\d < a.tmps.size then v else a.tmps.getD i undef:=by
 simp only[Act.put,cJ,dS];by_cases h:d=i
 ·subst h;by_cases hl:d < a.tmps.size
  ·simp[hl]
  ·simp[hl]
 ·simp[h,Ne.symm h]
theorem Inv.put{C:Ctx}{g:Nat->lA}{β:Id->Option Pl}{s:AS}{a:Act}{w:bV}(h:Inv C g β s a w)(d:Option Tmp){v:aF}{x:Value}(hv:VS (s.env w g β) v x):
  Inv C g β (s.put d v) (a.put d x) w:=by
 cases d with
 |none=>exact h
 |some d=>
  refine⟨h.defers,by simpa[Act.put,AS.put]using h.size,λi=> ?_,by simpa using h.bM,h.trans,by simpa using h.le⟩;rw[ZN,Uy,af7,h.size];split
  ·exact hv
  ·exact h.cn i
theorem Inv.step{C:Ctx}{g g':Nat->lA}{β β':Id->Option Pl}{s s':AS}{a:Act}{w w':bV}(h:Inv C g β s a w)(hs:s'.cn=s.cn)
  (ht:Trans w w' g g') (he:cP (s.env w g β) (s'.env w' g' β')) (ho:iR (s'.env w' g' β')):Inv C g' β' s' a w':=
 ⟨h.defers.mono ht,by rw[hs];exact h.size,λi=>by
  have:s'.slot i=s.slot i:=by simp[AS.slot,hs]
  rw[this];exact(h.cn i).mono he,ho,h.trans.trans ht,h.le.trans he⟩
theorem aq7{E:Env}(v:Value):VS E (ofConst v) v:=by
 cases v with
 |bool b=>exact⟨_,by simp[ofConst,V,cG],rfl⟩
 |int k n=>exact⟨_,by simp[ofConst,V,cG],rfl⟩
 |string s=>exact⟨_,by simp[ofConst,V,cG],rfl⟩
 |slice a l c=>cases a with
  |none=>
   cases l with
   |zero=>cases c with
    |zero=>exact⟨_,by simp[ofConst,V],rfl⟩
    |succ _=>trivial
   |succ _=>trivial
  |some _=>trivial
 |pointer a=>cases a with
  |none=>exact⟨_,by simp[ofConst,V],rfl⟩
  |some _=>trivial
 |map r=>cases r with
  |none=>exact⟨_,by simp[ofConst,V],rfl⟩
  |some _=>trivial
 |nilFunc=>exact⟨_,by simp[ofConst,V],rfl⟩
 |_=>trivial
theorem Inv.ev{C:Ctx}{g:Nat->lA}{β:Id->Option Pl}{s:AS}{a:Act}{w:bV}(h:Inv C g β s a w)(x:bI):VS (s.env w g β) (s.ev x) (a.eval x):=by
 cases x with
 |tmp t=>exact h.cn t
 |const v=>exact aq7 v
 |func f=>exact⟨_,by simp only[AS.ev,V];exact⟨[],rfl,by simp[VC]⟩,rfl⟩
 |global _=>trivial
theorem eu(s:AS)(id:Id)(e:dE)(h:s.bS id≠aH):(s.aY id e).bS id=au e:=by
 cases id with
 |bF k=>
  simp only[AS.bS,AS.aY]at*;have hk:k < s.b8.length:=by
   rcases oV k s.b8.length with h' | h'
   ·exact h'
   ·exact absurd (dG h') h
  simp[hk]
 |new i j=>
  simp only[AS.bS,AS.aY]at*;have hj:j < (s.news.getD i []).length:=by
   rcases oV j (s.news.getD i []).length with h' | h'
   ·exact h'
   ·exact absurd (dG h') h
  have hi:i < s.news.length:=by
   rcases oV i s.news.length with h' | h'
   ·exact h'
   ·simp[dG h']at hj
  have:((s.news.set i ((s.news.getD i []).set j e)).getD i [])=(s.news.getD i []).set j e:=by simp[aJ,hi]
  rw[this];simp only[List.getElem?_set,hj,cZ]
theorem cX(s:AS)(id id':Id)(e:dE)(h:id'≠id):(s.aY id e).bS id'=s.bS id':=by
 cases id with
 |bF k=>
  cases id' with
  |bF k'=>
   simp only[AS.bS,AS.aY];rw[dY (λe=>h (by rw[e]))]
  |new i j=>rfl
 |new i j=>
  cases id' with
  |bF k'=>rfl
  |new i' j'=>
   simp only[AS.bS,AS.aY];by_cases hi:i'=i
   ·subst hi;have hj:j≠j':=λe=>h (by rw[e])
    by_cases hl:i' < s.news.length
    ·have:((s.news.set i' ((s.news.getD i' []).set j e)).getD i' [])=(s.news.getD i' []).set j e:=by simp[aJ,hl]
     rw[this,dY hj]
    ·rw[List.set_eq_of_length_le aq]
   ·have:(s.news.set i ((s.news.getD i []).set j e)).getD i' []=s.news.getD i' []:=by simp only[aJ];rw[dY (Ne.symm hi)]
    rw[this]
@[simp] theorem dh(s:AS)(id:Id)(e:dE):(s.aY id e).cn=s.cn:=by cases id <;> rfl
@[simp] theorem aC0(s:AS)(i:Nat)(es:List dE):(s.born i es).cn=s.cn:=rfl
theorem dO{s:AS}{id:Id}{v:Nat}{fr:Bool}{c:aF}(h:s.obj id=au (v,fr,c)):s.bS id=au (.obj v fr c):=by
 unfold AS.obj at h;split at h
 ·rename_i h';simp at h;obtain⟨rfl,rfl,rfl⟩:=h;exact h'
 ·cases h
theorem cP.aY{s:AS}{w w':bV}{g g':Nat->lA}{β β':Id->Option Pl}{id:Id}{v v':Nat}{fr fr':Bool}{c c':aF}(hs:s.bS id=au (.obj v fr c))(hv:v<=v')
  (ht:Trans w w' g g') (hβ:∀i,i≠id->β' i=β i) (hβ':v'=v->β' id=β id):cP (s.env w g β) ((s.aY id (.obj v' fr' c')).env w' g' β'):=by
 have kC:=eu s id (.obj v' fr' c') (by rw[hs];simp);refine⟨Trans.mem ht,λi ver hb=> ?_,λi ver hb hc=> ?_⟩
 ·by_cases hi:i=id
  ·subst hi;obtain⟨_,h2⟩:=hb;refine⟨by show(s.aY i (.obj v' fr' c')).bS i≠aH;rw[kC];simp,λv'' fr'' c'' he=> ?_⟩;have he':(s.aY i (.obj v' fr' c')).bS i=au (.obj v'' fr'' c''):=he;rw[kC]at he';simp only[az,dE.obj.injEq]at he';have:=h2 v fr c hs;omega
  ·have:=cX s id i (.obj v' fr' c') hi;obtain⟨h1,h2⟩:=hb;exact⟨by show(s.aY id (.obj v' fr' c')).bS i≠aH;rw[this];exact h1,λv'' fr'' c'' he=>h2 v'' fr'' c'' (this.symm.trans he)⟩
 ·obtain⟨fr'',c'',hc⟩:=hc;by_cases hi:i=id
  ·subst hi;have hc':(s.aY i (.obj v' fr' c')).bS i=au (.obj ver fr'' c''):=hc;rw[kC]at hc';simp only[az,dE.obj.injEq]at hc';have h2:=hb.2 v fr c hs;have e:v'=v:=aq;refine⟨⟨fr,c,?_⟩,hβ' e⟩;rw[<-hc'.1,e];exact hs
  ·have hc':(s.aY id (.obj v' fr' c')).bS i=au (.obj ver fr'' c''):=hc;rw[cX s id i _ hi]at hc';exact⟨⟨fr'',c'',hc'⟩,hβ i hi⟩
theorem iR.aY{s:AS}{w w':bV}{g g':Nat->lA}{β β':Id->Option Pl}{id:Id}{v':Nat}{fr':Bool}{c':aF}(h:iR (s.env w g β))(gV:s.bS id≠aH)
  (he:cP (s.env w g β) ((s.aY id (.obj v' fr' c')).env w' g' β')) (hβ:∀i,i≠id->β' i=β i)
  (hb:∀i ver fr c pl,i≠id->s.bS i=au (.obj ver fr c)->β i=au pl->w'.heap[pl.b]? =w.heap[pl.b]? /\g' pl.b=g pl.b)
  (ho:u6 ((s.aY id (.obj v' fr' c')).env w' g' β') id fr' c')
  (ab3:∀ver k v l,s.bS id=au (.obj ver aO (.mp k v l))->v'=ver/\fr'=aO/\(∃k v l,c'= .mp k v l)/\∀pl,β id=au pl->w'.heap[pl.b]? =w.heap[pl.b]? /\g' pl.b=g pl.b):iR ((s.aY id (.obj v' fr' c')).env w' g' β'):=by
 intro i ver fr c hi;by_cases c8:i=id
 ·subst c8;have hi':(s.aY i (.obj v' fr' c')).bS i=au (.obj ver fr c):=hi;rw[eu s i _ gV]at hi';simp only[az,dE.obj.injEq]at hi';obtain⟨rfl,rfl,rfl⟩:=hi';exact ho
 ·have hi':(s.aY id (.obj v' fr' c')).bS i=au (.obj ver fr c):=hi;rw[cX s id i _ c8]at hi';refine(h i ver fr c hi').mono he (hβ i c8) (λpl hp=>hb i ver fr c pl c8 hi' hp) λq vq k v l hq hc=> ?_
  have hq:s.bS q=au (.obj vq aO (.mp k v l)):=hq;by_cases aHi:q=id
  ·subst aHi;obtain⟨rfl,rfl,⟨k',v',l',rfl⟩,aDx⟩:=ab3 _ _ _ _ hq;exact⟨⟨k',v',l',eu s q _ gV⟩,aDx⟩
  ·exact⟨⟨k,v,l,by show(s.aY id _).bS q=_;rw[cX s id q _ aHi];exact hq⟩,λpl hp=>hb q vq aO _ pl aHi hq hp⟩
theorem Qz{s:AS}{w:bV}{g:Nat->lA}{β:Id->Option Pl}{id:Id}{v:Nat}{fr:Bool}{c:aF}(hs:s.bS id=au (.obj v fr c)):
  ∀ver k v1 l,s.bS id=au (.obj ver aO (.mp k v1 l))->v=ver/\aO=aO/\(∃k v l,c= .mp k v l)/\∀pl,β id=au pl->w.heap[pl.b]? =w.heap[pl.b]? /\g pl.b=g pl.b:=λver k v1 l hl=>by
 rw[hs]at hl;cases hl;exact⟨rfl,rfl,⟨_,_,_,rfl⟩,λ_ _=>⟨rfl,rfl⟩⟩
theorem pg{s:AS}{id:Id}{v:Nat}{fr:Bool}{c:aF}(hs:s.bS id=au (.obj v fr c))(hc:∀k v1 l,c≠ .mp k v1 l){Q:Nat->Prop}:
  ∀ver k v1 l,s.bS id=au (.obj ver aO (.mp k v1 l))->Q ver:=λver k v1 l hl=>by
 rw[hs]at hl;cases hl;exact absurd rfl (hc _ _ _)
theorem Ko{s:AS}{id:Id}{v:Nat}{c:aF}(hs:s.bS id=au (.obj v aV c)){Q:Nat->Prop}:
  ∀ver k v1 l,s.bS id=au (.obj ver aO (.mp k v1 l))->Q ver:=λver k v1 l hl=>by
 rw[hs]at hl;cases hl
theorem zj{s:AS}{id:Id}{v:Nat}{fr:Bool}{c:aF}(hs:s.bS id=au (.obj v fr c))(h:s.sU id=aO):fr=aV:=by
 have e:s.obj id=au (v,fr,c):=by simp[AS.obj,hs]
 unfold AS.sU at h;rw[e]at h;simpa using h
theorem u6.label{E:Env}{id:Id}{fr:Bool}{c:aF}(h:u6 E id fr c){pl:Pl}(hp:E.β id=au pl):
    pl.b < E.w.heap.size/\((∃k,E.g pl.b= .own (.id id) k)\/(fr=aO/\E.g pl.b= .free)):=by
  by_cases hn:c.ix=aV
  · obtain⟨pl',cur,e,h1,h2,h3,h4⟩:=h.box hn
    rw[hp]at h1;obtain rfl:pl=pl':=by simpa using h1
    refine⟨(bN.1 h2).1,?_⟩;cases fr with
    |true=>exact .inr ⟨rfl,h3⟩
    |false=>exact .inl ⟨0,h3⟩
  · cases c <;> first
      | (exact absurd rfl hn)
      | (obtain⟨pl',r,h1,h2,h3,_,_,_⟩:=h
         rw[hp]at h1;obtain rfl:pl=pl':=by simpa using h1
         exact⟨(bN.1 h2).1,.inl ⟨0,h3⟩⟩)
      | (obtain⟨pl',es,clock,h1,h2,h3,_⟩:=h
         rw[hp]at h1;obtain rfl:pl=pl':=by simpa using h1
         exact⟨(bN.1 h2).1,.inl ⟨0,h3⟩⟩)
      | (obtain⟨pl',mb,since,seen,c0,h1,h2,h3,_⟩:=h
         rw[hp]at h1;obtain rfl:pl=pl':=by simpa using h1
         exact⟨(bN.1 h2).1,.inl ⟨0,h3⟩⟩)
      |skip
    obtain⟨_,h⟩:=h;rw[hp]at h;obtain⟨cur,k,h1,_,_,_,h5,_⟩:=h;exact⟨(bN.1 h1).1,.inl ⟨k,h5⟩⟩
def mM{α:Type}(f:Nat->α)(b:Nat)(x:α):Nat->α:=λb'=>if b'=b then x else f b'
@[simp] theorem fI{α:Type}(f:Nat->α)(b:Nat)(x:α):mM f b x b=x:=by simp[mM]
theorem fD{α:Type}(f:Nat->α)(b:Nat)(x:α){b':Nat}(h:b'≠b):mM f b x b'=f b':=by simp[mM,h]
def R8:aF->Nat->Prop
 | .vec _ t l,j=>j < l.length*t.size
 |_,_=>True
theorem R8.of{c:aF}(h:c.ix=aV)(j:Nat):R8 c j:=by cases c <;> first | trivial | (simp[aF.ix]at h)
theorem arI{w:bV}{b:Nat}{es:Array fO}{clock:Nat}(h:w.heap[b]? =au (.map es clock))(j:Nat):w.cell? ⟨b,j,aH⟩=aH:=by simp[eI,h]
theorem JX{C:Ctx}{g:Nat->lA}{β:Id->Option Pl}{s:AS}{a:Act}{w:bV}(h:Inv C g β s a w)(id:Id):
    ∃g',Inv C g' β (s.freeze id) a w/\cP (s.env w g β) ((s.freeze id).env w g' β)/\Trans w w g g'/\
      (∀v fr c,s.bS id=au (.obj v fr c)->∀pl,β id=au pl->∀j x,w.cell? ⟨pl.b,j,aH⟩=au x->
        R8 c j->rH g' pl.b j):=by
  unfold AS.freeze;cases hs:s.bS id with
  |none=>exact⟨g,h,cP.refl _,Trans.refl _ _,λ_ _ _ hh=>by cases hh⟩
  |some e=>
    cases e with
    |dead=>exact⟨g,h,cP.refl _,Trans.refl _ _,λ_ _ _ hh=>by cases hh⟩
    |obj v fr c=>
      simp only;have j6:u6 (s.env w g β) id fr c:=h.bM id v fr c hs;cases hp:β id with
      |none=>
        have ht:=Trans.refl w g;have he:cP (s.env w g β) ((s.aY id (.obj v aO c)).env w g β):=cP.aY hs (aC _) ht (λ_ _=>rfl) (λ_=>rfl);refine⟨g,h.step (dh _ _ _) ht he ?_,he,ht,λ_ _ _ _ pl P6=>by cases P6⟩;refine iR.aY h.bM (by rw[hs];simp) he (λ_ _=>rfl) (λ_ _ _ _ _ _ _ _=>⟨rfl,rfl⟩) ?_ (Qz hs)
        by_cases hn:c.ix=aV
        · obtain⟨pl,_,_,h1,_⟩:=j6.box hn
          have h1':β id=au pl:=h1;rw[hp]at h1';cases h1'
        · cases c <;> first
            | (exact absurd rfl hn)
            | (obtain⟨pl,_,h1,_⟩:=j6
               have h1':β id=au pl:=h1;rw[hp]at h1';cases h1')
            | (obtain⟨pl,_,_,h1,_⟩:=j6
               have h1':β id=au pl:=h1;rw[hp]at h1';cases h1')
            | (obtain⟨pl,_,_,_,_,h1,_⟩:=j6
               have h1':β id=au pl:=h1;rw[hp]at h1';cases h1')
            |skip
          obtain⟨hz,ho⟩:=j6;have ho':(match β id with
            |none=>_
            |some pl=>_):=ho
          refine⟨hz,?_⟩;show(match β id with
            |none=>_
            |some pl=>_)
          rw[hp]at ho' ⊢;exact ho'
      |some pl=>
        have anV:=j6.label (pl:=pl) hp;by_cases hn:c.ix=aV
        · obtain⟨pl',cur,e,h1,h2,h3,h5,h4⟩:=j6.box hn
          have h1':β id=au pl':=h1;rw[hp]at h1';obtain rfl:pl=pl':=by simpa using h1'
          have h3':g pl.b=ag1 id fr:=h3;have ht:Trans w w g (mM g pl.b .free):=by
            refine⟨rfl,rfl,⟨rfl,aC _⟩,aC _,λb hb=> ?_⟩;by_cases Z1:b=pl.b
            · subst Z1
              rw[h3',fI];cases fr with
              |true=>exact⟨rfl,rfl⟩
              |false=>exact⟨.inl rfl,λ_ _ _ hh=>hh⟩
            · rw[fD _ _ _ Z1]
              exact(Trans.refl w g).Mn b hb
          have he:cP (s.env w g β) ((s.aY id (.obj v aO c)).env w (mM g pl.b .free) β):=cP.aY hs (aC _) ht (λ_ _=>rfl) (λ_=>rfl);refine⟨mM g pl.b .free,h.step (dh _ _ _) ht he ?_,he,ht,?_⟩
          · refine iR.aY h.bM (by rw[hs];simp) he (λ_ _=>rfl) (λi ver fr' c' pl' hi cI P6=>⟨rfl,?_⟩) ?_ (pg hs λk v1 l e=>by rw[e]at hn;simp[aF.ix]at hn)
            · by_cases Z1:pl'.b=pl.b
              · rw[Z1,fI]
                have hl:=(h.bM i ver fr' c' cI).label (pl:=pl') P6;have XM:(∃k,g pl'.b= .own (.id i) k)\/(fr'=aO/\g pl'.b= .free):=hl.2;rw[Z1,h3']at XM;cases fr with
                |true=>exact h3'.symm▸rfl
                |false=>
                  exfalso;rcases XM with⟨k,hk⟩ | ⟨_,hk⟩
                  · simp only[ag1,lA.own.injEq,Own.id.injEq]at hk
                    exact hi hk.1.symm
                  · cases hk
              · rw[fD _ _ _ Z1]
            · exact Mb.obj ⟨pl,cur,e,hp,h2,fI _ _ _,h5,V.mono he h4⟩
          · intro v1 fr1 c1 hh pl1 Z6 j x hx hj
            obtain rfl:pl=pl1:=by simpa using Z6
            unfold rH;rw[fI];trivial
        · cases c <;> first | (exact absurd rfl hn) | skip
          rotate_left;rotate_left
          · rename_i q vq kt vt rest cu
            have ht:=Trans.refl w g;have he:cP (s.env w g β) ((s.aY id (.obj v aO (.qa q vq kt vt rest cu))).env w g β):=cP.aY hs (aC _) ht (λ_ _=>rfl) (λ_=>rfl);have hob':=j6;obtain⟨pl',mb,since,seen,c0,h1,h2,_⟩:=j6;have h1':β id=au pl':=h1;rw[hp]at h1';obtain rfl:pl=pl':=by simpa using h1'
            refine⟨g,h.step (dh _ _ _) ht he ?_,he,ht,λ_ _ _ _ pl1 Z6 j x hx _=> ?_⟩
            · refine iR.aY h.bM (by rw[hs];simp) he (λ_ _=>rfl) (λ_ _ _ _ _ _ _ _=>⟨rfl,rfl⟩) ?_ (Qz hs)
              exact u6.mono he (fr:=aO) hob' rfl (λ_ _=>⟨rfl,rfl⟩) λq2 v2 k2 v3 l2 MP _=>⟨⟨k2,v3,l2,by
                have MP:s.bS q2=au (.obj v2 aO (.mp k2 v3 l2)):=MP;have gV:q2≠id:=λe=>by rw[e,hs]at MP;cases MP
                show(s.aY id _).bS q2=_;rw[cX s id q2 _ gV];exact MP⟩,λ_ _=>⟨rfl,rfl⟩⟩
            · obtain rfl:pl=pl1:=by simpa using Z6
              have h2:w.heap[pl.b]? =au (.mapIter (au mb) since seen c0):=h2
              simp[eI,h2]at hx
          · rename_i k f p
            have ht:=Trans.refl w g;have he:cP (s.env w g β) ((s.aY id (.obj v aO (.uN k f p))).env w g β):=cP.aY hs (aC _) ht (λ_ _=>rfl) (λ_=>rfl);obtain⟨pl',r,h1,h2,h3,h4,h5,h6⟩:=j6;have h1':β id=au pl':=h1;rw[hp]at h1';obtain rfl:pl=pl':=by simpa using h1'
            refine⟨g,h.step (dh _ _ _) ht he ?_,he,ht,λ_ _ _ _ pl1 Z6 j x hx _=> ?_⟩
            · exact iR.aY h.bM (by rw[hs];simp) he (λ_ _=>rfl) (λ_ _ _ _ _ _ _ _=>⟨rfl,rfl⟩) ⟨pl,r,hp,h2,h3,h4,h5.mono he,h6⟩ (Qz hs)
            · obtain rfl:pl=pl1:=by simpa using Z6
              have h2:w.heap[pl.b]? =au (.loop r):=h2
              simp[eI,h2]at hx
          rotate_left
          · obtain⟨pl',es,clock,h1,h2,h3,h4⟩:=j6
            have h1':β id=au pl':=h1;rw[hp]at h1';obtain rfl:pl=pl':=by simpa using h1'
            have ht:=Trans.refl w g;rename_i kt vt l;have he:cP (s.env w g β) ((s.aY id (.obj v aO (.mp kt vt l))).env w g β):=cP.aY hs (aC _) ht (λ_ _=>rfl) (λ_=>rfl);refine⟨g,h.step (dh _ _ _) ht he ?_,he,ht,λ_ _ _ _ pl1 Z6 j x hx _=> ?_⟩
            · exact iR.aY h.bM (by rw[hs];simp) he (λ_ _=>rfl) (λ_ _ _ _ _ _ _ _=>⟨rfl,rfl⟩) ⟨pl,es,clock,hp,h2,h3,⟨h4.1.1.mono he.mem,h4.1.2⟩,h4.2⟩ (Qz hs)
            · obtain rfl:pl=pl1:=by simpa using Z6
              have h2:w.heap[pl.b]? =au (.map es clock):=h2
              rw[arI h2]at hx;cases hx
          rename_i e t l;obtain⟨hz,ho⟩:=j6;have ho':(match β id with
            |none=>l=[]
            |some pl=>∃cur k,w.heap[pl.b]? =au (.cells cur e (0,0))/\cur.size=pl.cap*t.size/\l.length<=pl.cap/\pl.cap<=maxLen/\g pl.b= .own (.id id) k/\
                k<=l.length*t.size/\(fr=aV->k=0)/\bq (cG (s.env w g β) t) (cur.toList.take (l.length*t.size)) l):=ho
          rw[hp]at ho';obtain⟨cur,k,h1,h2,h3,h4,h5,h6,h7,h8⟩:=ho';have ht:Trans w w g (mM g pl.b (.own (.id id) (l.length*t.size))):=by
            refine⟨rfl,rfl,⟨rfl,aC _⟩,aC _,λb hb=> ?_⟩;by_cases Z1:b=pl.b
            · subst Z1
              rw[h5,fI];exact⟨.inr ⟨id,_,rfl,h6⟩,λ_ _ _ hh=>hh⟩
            · rw[fD _ _ _ Z1]
              exact(Trans.refl w g).Mn b hb
          have he:cP (s.env w g β) ((s.aY id (.obj v aO (.vec e t l))).env w (mM g pl.b (.own (.id id) (l.length*t.size))) β):=cP.aY hs (aC _) ht (λ_ _=>rfl) (λ_=>rfl);refine⟨_,h.step (dh _ _ _) ht he ?_,he,ht,?_⟩
          · refine iR.aY h.bM (by rw[hs];simp) he (λ_ _=>rfl) (λi ver fr' c' pl' hi cI P6=>⟨rfl,?_⟩) ?_ (pg hs λk v1 l e=>by cases e)
            · by_cases Z1:pl'.b=pl.b
              · exfalso
                have hl:=(h.bM i ver fr' c' cI).label (pl:=pl') P6;have XM:(∃k,g pl'.b= .own (.id i) k)\/(fr'=aO/\g pl'.b= .free):=hl.2;rw[Z1,h5]at XM;rcases XM with⟨k,hk⟩ | ⟨_,hk⟩
                · simp only[lA.own.injEq,Own.id.injEq]at hk
                  exact hi hk.1.symm
                · cases hk
              · rw[fD _ _ _ Z1]
            · refine⟨hz,?_⟩
              show(match β id with
                |none=>l=[]
                |some pl=>_)
              rw[hp];exact⟨cur,_,h1,h2,h3,h4,fI _ _ _,aC _,(by intro hh;cases hh),h8.mono λc x hx=>hx.mono he.mem⟩
          · intro v1 fr1 c1 hh pl1 Z6 j x hx hj
            obtain rfl:pl=pl1:=by simpa using Z6
            simp only[az,dE.obj.injEq]at hh;obtain⟨_,_,rfl⟩:=hh;unfold rH;rw[fI];exact hj
end Go.Ab
namespace Go.Ab
def aD3(E E':Env)(ids:List Id):Prop:=∀id∈ids,∀v fr c,E.s id=au (.obj v fr c)->∀pl,E.β id=au pl->∀j x,E.w.cell? ⟨pl.b,j,aH⟩=au x->R8 c j->E'.has pl.b j x
theorem RK{s:AS}{id i:Id}{v:Nat}{fr:Bool}{c:aF}(h:s.bS i=au (.obj v fr c)):∃fr',(s.freeze id).bS i=au (.obj v fr' c):=by
 unfold AS.freeze;by_cases hi:i=id
 ·subst hi;rw[h];exact⟨aO,eu s i _ (by rw[h];simp)⟩
 ·split
  ·exact⟨fr,by rw[cX s id i _ hi];exact h⟩
  ·exact⟨fr,h⟩
theorem eZ{C:Ctx}{β:Id->Option Pl}{a:Act}{w:bV}:∀(ids:List Id) {g:Nat->lA} {s:AS},Inv C g β s a w->
  ∃g',Inv C g' β (s.bt ids) a w/\cP (s.env w g β) ((s.bt ids).env w g' β)/\Trans w w g g'/\aD3 (s.env w g β) ((s.bt ids).env w g' β) ids
 |[],g,s,h=>⟨g,h,cP.refl _,Trans.refl _ _,λ_ hi=>by cases hi⟩
 |id::ids,g,s,h=>by
  obtain⟨g1,h1,e1,t1,f1⟩:=JX h id;obtain⟨g2,h2,e2,t2,f2⟩:=eZ ids h1;refine⟨g2,h2,e1.trans e2,t1.trans t2,λi hi v fr c hs pl hp j x hx hj=> ?_⟩;rcases bA.1 hi with rfl | hi
  ·exact e2.mem.has _ _ _ ⟨hx,f1 v fr c hs pl hp j x hx hj⟩
  ·obtain⟨fr',hs'⟩:=RK (id:=id) hs;exact f2 i hi v fr' c hs' pl hp j x hx hj
theorem abt(s:AS)(id:Id):(s.freeze id).cn=s.cn:=by unfold AS.freeze;split <;> simp
theorem mW:∀(ids:List Id) (s:AS),(s.bt ids).cn=s.cn
 |[],_=>rfl
 |id::ids,s=>by rw[AS.bt,mW ids,abt]
theorem aeI(s:AS)(id:Id)(q:Nat):(s.freeze id).dW q=s.dW q:=by
 unfold AS.freeze;split
 ·rename_i v b c h;cases id with
  |bF k=>rfl
  |new i j=>
   simp only[AS.aY,AS.dW];by_cases hq:i=q
   ·subst hq;simp only[AS.bS]at h;by_cases hl:i < s.news.length
    ·rw[List.getElem?_set_self hl,bW hl];rw[aJ,bW hl]at h ⊢;simp only[dQ]at h ⊢;cases hh:s.news[i]with
     |nil=>rw[hh]at h;simp at h
     |cons x xs=>cases j <;> simp[fW]
    ·rw[List.set_eq_of_length_le aq]
   ·rw[dY hq]
 ·rfl
theorem tW:∀(ids:List Id) (s:AS) (q:Nat),(s.bt ids).dW q=s.dW q
 |[],_,_=>rfl
 |id::ids,s,q=>by rw[AS.bt,tW ids,aeI]
theorem Sx{e:TypeId}{t:Ty}:∀ {p:List Gs} {n:Nat} {v:aF},(loc (.vec e t []) p).eval=au (n,v)->n=0/\v= .vec e t []
 |[],n,v,h=>by simp only[loc,ay,cF]at h;exact⟨h.1.symm,h.2.symm⟩
 | .arr::p,n,v,h=>by simp only[loc]at h;exact Sx h
 | .idx i::p,n,v,h=>by simp[loc,bQ]at h
 | .fst::p,n,v,h=>by simp only[loc,av]at h
 | .snd::p,n,v,h=>by simp only[loc,av]at h
theorem QC{k:tm}{f:aF}{m:Nat}:∀ {p:List Gs} {n:Nat} {v:aF},(loc (.uN k f m) p).eval=au (n,v)->n=0/\v= .uN k f m
 |[],n,v,h=>by simp only[loc,ay,cF]at h;exact⟨h.1.symm,h.2.symm⟩
 | .arr::p,n,v,h=>by simp only[loc]at h;exact QC h
 | .idx i::p,n,v,h=>by simp only[loc,av]at h
 | .fst::p,n,v,h=>by simp only[loc,av]at h
 | .snd::p,n,v,h=>by simp only[loc,av]at h
theorem aap{k t:Ty}{l:List (k.den×t.den)}:∀ {p:List Gs} {n:Nat} {v:aF},(loc (.mp k t l) p).eval=au (n,v)->n=0/\v= .mp k t l
 |[],n,v,h=>by simp only[loc,ay,cF]at h;exact⟨h.1.symm,h.2.symm⟩
 | .arr::p,n,v,h=>by simp only[loc]at h;exact aap h
 | .idx i::p,n,v,h=>by simp only[loc,av]at h
 | .fst::p,n,v,h=>by simp only[loc,av]at h
 | .snd::p,n,v,h=>by simp only[loc,av]at h
theorem QB{q:Id}{ver:Nat}{k t:Ty}{l:List (k.den×t.den)}{cu:Option (k.den×t.den)}:∀ {p:List Gs} {n:Nat} {v:aF},(loc (.qa q ver k t l cu) p).eval=au (n,v)->n=0/\v= .qa q ver k t l cu
 |[],n,v,h=>by simp only[loc,ay,cF]at h;exact⟨h.1.symm,h.2.symm⟩
 | .arr::p,n,v,h=>by simp only[loc]at h;exact QB h
 | .idx i::p,n,v,h=>by simp only[loc,av]at h
 | .fst::p,n,v,h=>by simp only[loc,av]at h
 | .snd::p,n,v,h=>by simp only[loc,av]at h
theorem NC{E:Env}{s:AS}(hs:E.s=s.bS)(ho:iR E){id:Id}{ver:Nat}{p:List Gs}{n:Nat}{t:Ty}{l:List t.den}(h:(s.row id ver p).eval=au (n,⟨t,l⟩)):
    ∃fr c,E.s id=au (.obj ver fr c)/\((E.β id=aH/\l=[]/\n=0)\/∃pl cur e,E.β id=au pl/\E.w.heap[pl.b]? =au (.cells cur e (0,0))/\n+l.length*t.size<=cur.size/\
      bq (cG E t) ((cur.toList.drop n).take (l.length*t.size)) l/\
      ∀j,j < n+l.length*t.size->R8 c j):=by
  unfold AS.row at h;cases j6:s.obj id with
  |none=>rw[j6]at h;simp only[av]at h
  |some r=>
    obtain⟨v,fr,c⟩:=r;rw[j6]at h;obtain⟨h1,h2⟩:=aI.1 h;obtain⟨⟨n',v'⟩,h3,h4⟩:=aw.1 h2;have hv:v=ver:=by simpa using h1
    subst hv;have cI:E.s id=au (.obj v fr c):=by rw[hs];exact dO j6
    refine⟨fr,c,cI,?_⟩;have hO:=ho id v fr c cI
    have ahT:∀(pl:Pl) (cur:Array Value) (e:TypeId) (m:Nat) (t':Ty) (l':List t'.den) (n':Nat),E.β id=au pl->E.w.heap[pl.b]? =au (.cells cur e (0,0))->c.ix=aV->
        V E (.d (.arr m t') l') ((cur.toList.drop n').take (aF.d (.arr m t') l').size)->n'+(aF.d (.arr m t') l').size<=cur.toList.length->(Out.ok (n',(⟨t',l'⟩:(t:Ty)×List t.den))).eval=au (n,⟨t,l⟩)->
        ∃pl cur e,E.β id=au pl/\E.w.heap[pl.b]? =au (.cells cur e (0,0))/\n+l.length*t.size<=cur.size/\bq (cG E t) ((cur.toList.drop n).take (l.length*t.size)) l/\
          ∀j,j < n+l.length*t.size->R8 c j:=by
      intro pl cur e m t' l' n' hp hh hn hv hl he;simp only[ay,cF]at he;obtain⟨rfl,he⟩:=he;obtain⟨rfl,he⟩:=he;simp only[V,cG]at hv;obtain⟨aCk,OK⟩:=hv;have re:∀(t:Ty) (l:List t.den),l.length=m->(aF.d (.arr m t) l).size=l.length*t.size:=λt l hh=>by simp[aF.size,Ty.size,hh]
      rw[re _ _ aCk]at OK hl;exact⟨pl,cur,e,hp,hh,by simpa using hl,OK,λj _=>R8.of hn j⟩
    by_cases hn:c.ix=aV
    · right
      obtain⟨pl,cur,e,hp,hh,hg,hk,hV⟩:=hO.box hn;have hN:=Qo hk;generalize c.vc cur.size=N at hN hV;have hNl:(cur.toList.take N).length=N:=by rw[bZ,cO];omega
      obtain⟨u,hu⟩:∃u,c.strip=u:=⟨_,rfl⟩;rw[hu]at hV h3;have ax4:∀m k:Nat,m+k<=(cur.toList.take N).length->((cur.toList.take N).drop m).take k=(cur.toList.drop m).take k/\m+k<=cur.toList.length:=λm k ata=>by rw[hNl]at ata;refine⟨?_,by rw[cO];omega⟩;rw[rR,jU,fF aq]
      rcases ri p u (cur.toList.take N) n' v' (VO.of hV) h3 with⟨rfl,rfl⟩ | ⟨hV',hle⟩
      · cases v' with
        |d t' x=>cases t' with
          |arr m t'=>
            have hs:=hV.size;have hc:=ax4 0 (aF.d (.arr m t') x).size aq;refine ahT pl cur e m t' x 0 hp hh hn ?_ hc.2 (by simpa only using h4)
            rw[<-hc.1,aN,bH aq];exact hV
          |_=>simp only[av]at h4
        |vec=>simp only[V]at hV
        |_=>simp only[av]at h4
      · cases v' with
        |d t' x=>cases t' with
          |arr m t'=>
            have hc:=ax4 _ _ hle;exact ahT pl cur e m t' x n' hp hh hn (by rw[<-hc.1];exact hV') hc.2 (by simpa only using h4)
          |_=>simp only[av]at h4
        |vec=>simp only[V]at hV'
        |_=>simp only[av]at h4
    · cases c <;> first
        | (exact absurd rfl hn)
        | (obtain⟨rfl,rfl⟩:=aap h3
           simp only[av]at h4)
        | (obtain⟨rfl,rfl⟩:=QB h3
           simp only[av]at h4)
        | (obtain⟨rfl,rfl⟩:=QC h3
           simp only[av]at h4)
        |skip
      rename_i e t0 l0;obtain⟨hz,hO⟩:=hO;cases hp:E.β id with
      |none=>
        rw[hp]at hO;have aAA:l0=[]:=hO;subst aAA;obtain⟨rfl,rfl⟩:=Sx h3;simp only[ay,cF]at h4;obtain⟨rfl,he⟩:=h4;obtain⟨rfl,he⟩:=he;exact .inl ⟨rfl,rfl,rfl⟩
      |some pl=>
        rw[hp]at hO;obtain⟨cur,k,q1,q2,q3,q4,q5,q6,q7,q8⟩:=hO;right;have hlen:(cur.toList.take (l0.length*t0.size)).length=l0.length*t0.size:=bq.length (λc x hx=>cG.size hx) q8;have atf:l0.length*t0.size<=cur.size:=by rw[q2];exact cT _ q3
        rcases ri (E:=E) p (.vec e t0 l0) (cur.toList.take (l0.length*t0.size)) n' v' q8 h3 with⟨rfl,rfl⟩ | ⟨hV',hle⟩
        · simp only[ay,cF]at h4
          obtain⟨rfl,he⟩:=h4;obtain⟨rfl,he⟩:=he;exact⟨pl,cur,e,rfl,q1,aq,by simpa using q8,λj hj=>by show j < l.length*t.size;omega⟩
        · have hle':=hle
          rw[hlen]at hle';rw[rR,jU,fF aq]at hV';cases v' with
          |d t' x=>cases t' with
            |arr m t'=>
              simp only[ay,cF]at h4;obtain⟨rfl,he⟩:=h4;obtain⟨rfl,he⟩:=he;simp only[V,cG]at hV';obtain⟨aCk,OK⟩:=hV';have re:∀(t:Ty) (l:List t.den),l.length=m->(aF.d (.arr m t) l).size=l.length*t.size:=λt l hh=>by simp[aF.size,Ty.size,hh]
              rw[re _ _ aCk]at OK hle';refine⟨pl,cur,e,rfl,q1,aq,OK,λj hj=> ?_⟩;show j < l0.length*t0.size;omega
            |_=>simp only[av]at h4
          |vec=>simp only[V]at hV'
          |_=>simp only[av]at h4
theorem HF{E:Env}{t:Ty}{cs:List Value}{l:List t.den}(h:bq (cG E t) cs l)(i len:Nat):bq (cG E t) ((cs.drop (i*t.size)).take (len*t.size)) (cut l i len):=bq.take (λ_ _ hx=>hx.size) len (bq.drop (λ_ _ hx=>hx.size) i h)
theorem yx{α:Type}{l:List α}{i len:Nat}(h:i+len<=l.length):(cut l i len).length=len:=by simp[cut];omega
theorem afV{E E':Env}{s:AS}(hs:E.s=s.bS)(ho:iR E)(he:cP E E'){id:Id}{ver c i len n:Nat}{p:List Gs}{t':Ty}{l:List t'.den}{cs:List Value}
  (h1:(s.row id ver p).eval=au (n,⟨t',l⟩)) (h3:decide (n+i*t'.size=c/\i+len<=l.length)=aO) (hv:V E (.cM id ver p c i len) cs) (hf:aD3 E E' (aF.cM id ver p c i len).shared):cG E' (.slice t') cs (cut l i len):=by
 simp only[aR]at h3;obtain⟨hc,hlen⟩:=h3;obtain⟨fr,c0,cI,pP⟩:=NC hs ho h1;simp only[V]at hv;obtain⟨a,cap,anS,hle,pK,hb,fE⟩:=hv;have fE:=fE ⟨fr,c0,cI⟩;have awV:(cut l i len).length=len:=yx hlen;simp only[cG];refine⟨a,cap,?_⟩;rcases pP with⟨hp,hl,_⟩ | ⟨pl,cur,e,hp,hh,re,uq,hbound⟩
 ·rw[hp]at fE;simp only at fE;obtain⟨rfl,rfl,rfl⟩:=fE;refine⟨[],?_,aq,aq,λ_ _ hh=>by simp at hh,?_⟩
  ·rw[awV];exact anS
  ·have:cut l i 0=[]:=by simp[cut]
   rw[this];rfl
 ·rw[hp]at fE;simp only at fE;refine⟨((((cur.toList.drop n).take (l.length*t'.size)).drop (i*t'.size)).take (len*t'.size)),by rw[awV];exact anS,aq,by rw[awV];exact pK,?_,(HF uq i len).mono λ_ _ hx=>hx.mono he.mem⟩;have hmul:(i+len)*t'.size<=l.length*t'.size:=cT _ hlen;rw[eH]at hmul;rw[Tz _ _ _ _ _ hmul];intro j v hj;rw[cU]at hj;split at hj
  ·rename_i aB3;rw[fx,hc]at hj;have aG4:0 < len:=by
    rcases iQ len with h0 | h0
    ·subst h0;simp at aB3
    ·exact h0
   refine⟨pl.b,c,fE.1 (.inl aG4),?_⟩;refine hf id (by simp[aF.shared]) ver fr c0 cI pl hp (c+j) v ?_ (hbound _ aq)
   rw[cell_of_row E.w pl.b (c+j) cur e (0,0) hh];simpa using hj
  ·cases hj
theorem sO{E E':Env}{s:AS}(hs:E.s=s.bS)(ho:iR E)(he:cP E E'):∀(v:aF) (t:Ty) (x:t.den) (cs:List Value),V E v cs->(s.iN t v).eval=au x->aD3 E E' v.shared->cG E' t cs x
 | .d t' x',t,x,cs,hv,h,_=>by
  have h':(Out.opt (Ea t' t x')).eval=au x:=by cases t <;> simpa only[AS.iN]using h
  simp only[V]at hv;exact B4 (jd.1 h') (hv.mono he.mem)
 | .dd,.slice t,x,cs,hv,h,_=>by simp only[AS.iN,ay]at h;subst h;simp only[V]at hv;simp only[cG];exact⟨aH,0,[],by simpa using hv,by simp,by simp,λi v hh=>by simp at hh,rfl⟩
 | .dd,.fX t,x,cs,hv,h,_=>by simp only[AS.iN,ay]at h;subst h;simp only[V]at hv;simp only[cG];exact⟨λ_=>hv,λl hl=>(by cases hl)⟩
 | .cM id ver p c i len,.fX t,x,cs,hv,h,hf=>by simp only[AS.iN]at h;obtain⟨⟨n,t',l⟩,h1,h2⟩:=aw.1 h;obtain⟨h3,h4⟩:=bQ.1 h2;exact B4 (jd.1 h4) (afV hs ho he h1 h3 hv hf)
 | .cM id ver p c i len,.slice t,x,cs,hv,h,hf=>by simp only[AS.iN]at h;obtain⟨⟨n,t',l⟩,h1,h2⟩:=aw.1 h;obtain⟨h3,h4⟩:=bQ.1 h2;exact B4 (jd.1 h4) (afV hs ho he h1 h3 hv hf)
 | .pr a b,.pair ta tb,x,cs,hv,h,hf=>by simp only[AS.iN]at h;obtain⟨x1,h1,h2⟩:=aw.1 h;obtain⟨x2,h3,h4⟩:=aw.1 h2;obtain rfl:=ay.1 h4;simp only[V]at hv;obtain⟨ca,cb,e,ha,hb⟩:=hv;simp only[cG];exact⟨ca,cb,e,sO hs ho he a ta x1 ca ha h1 (λi hi=>hf i (by simp[aF.shared,hi])),sO hs ho he b tb x2 cb hb h3 (λi hi=>hf i (by simp[aF.shared,hi]))⟩
 | .dd,.int _,_,_,_,h,_ | .dd,.bool,_,_,_,h,_ | .dd,.str,_,_,_,h,_ | .dd,.unit,_,_,_,h,_ | .dd,.pair _ _,_,_,_,h,_ | .dd,.arr _ _,_,_,_,h,_ | .dd,.nL _,_,_,_,h,_ | .dd,.gR _,_,_,_,h,_=>by simp only[AS.iN,av]at h
 | .cM ..,.int _,_,_,_,h,_ | .cM ..,.bool,_,_,_,h,_ | .cM ..,.str,_,_,_,h,_ | .cM ..,.unit,_,_,_,h,_ | .cM ..,.pair _ _,_,_,_,h,_ | .cM ..,.arr _ _,_,_,_,h,_ | .cM ..,.nL _,_,_,_,h,_ | .cM ..,.gR _,_,_,_,h,_=>by simp only[AS.iN,av]at h
 | .pr _ _,.int _,_,_,_,h,_ | .pr _ _,.bool,_,_,_,h,_ | .pr _ _,.str,_,_,_,h,_ | .pr _ _,.unit,_,_,_,h,_ | .pr _ _,.slice _,_,_,_,h,_ | .pr _ _,.arr _ _,_,_,_,h,_ | .pr _ _,.fX _,_,_,_,h,_ | .pr _ _,.nL _,_,_,_,h,_ | .pr _ _,.gR _,_,_,_,h,_=>by simp only[AS.iN,av]at h
 | .undef,t,_,_,_,h,_=>by cases t <;> simp only[AS.iN,av]at h
 | .gone,t,_,_,_,h,_=>by cases t <;> simp only[AS.iN,av]at h
 | .jW,.nL t,x,cs,hv,h,_=>by simp only[AS.iN,ay]at h;subst h;simp only[V]at hv;simp only[cG];exact⟨λ_=>hv,λy hy=>by cases hy⟩
 | .jW,.gR t,x,cs,hv,h,_=>by simp only[AS.iN,ay]at h;subst h;simp only[V]at hv;simp only[cG];exact⟨λ_=>hv,λy hy=>by cases hy⟩
 | .jW,.int _,_,_,_,h,_ | .jW,.bool,_,_,_,h,_ | .jW,.str,_,_,_,h,_ | .jW,.unit,_,_,_,h,_ | .jW,.pair _ _,_,_,_,h,_ | .jW,.arr _ _,_,_,_,h,_ | .jW,.slice _,_,_,_,h,_ | .jW,.fX _,_,_,_,h,_=>by simp only[AS.iN,av]at h
 | .vB,t,_,_,_,h,_=>by cases t <;> simp only[AS.iN,av]at h
 | .yl ..,t,_,_,_,h,_ | .uN ..,t,_,_,_,h,_=>by cases t <;> simp only[AS.iN,av]at h
 | .AL,t,_,_,_,h,_=>by cases t <;> simp only[AS.iN,av]at h
 | .sb _,t,_,_,_,h,_=>by cases t <;> simp only[AS.iN,av]at h
 | .ptr ..,t,_,_,_,h,_=>by cases t <;> simp only[AS.iN,av]at h
 | .eG ..,t,_,_,_,h,_=>by cases t <;> simp only[AS.iN,av]at h
 | .fn ..,t,_,_,_,h,_=>by cases t <;> simp only[AS.iN,av]at h
 | .cons ..,t,_,_,_,h,_=>by cases t <;> simp only[AS.iN,av]at h
 | .nil,t,_,_,_,h,_=>by cases t <;> simp only[AS.iN,av]at h
 | .vec ..,t,_,_,_,h,_=>by cases t <;> simp only[AS.iN,av]at h
 | .bx ..,t,_,_,_,h,_ | .dM ..,t,_,_,_,h,_ | .mp ..,t,_,_,_,h,_ | .qa ..,t,_,_,_,h,_=>by cases t <;> simp only[AS.iN,av]at h
theorem Ai{s:AS}{t:Ty}{v:aF}{x:t.den}(h:(s.iN t v).eval=au x):v.eJ=aO:=by
 cases v <;> first
  |rfl
  | (cases t <;> simp only[AS.iN,av]at h)
theorem UW{s:AS}{t:Ty}{v:aF}{x:t.den}(h:(s.iN t v).eval=au x):v.agg=t.agg:=by
 cases v with
 |d t' x'=>
  have h':(Out.opt (Ea t' t x')).eval=au x:=by cases t <;> simpa only[AS.iN]using h
  exact Xf (jd.1 h')
 |_=>cases t <;> first | rfl | (simp only[AS.iN,av]at h)
theorem ze{C:Ctx}{g:Nat->lA}{β:Id->Option Pl}{s:AS}{a:Act}{w:bV}(h:Inv C g β s a w){v:aF}{y:Value}(hv:VS (s.env w g β) v y){t:Ty}{x:t.den}(ht:(s.iN t v).eval=au x):
  ∃g',Inv C g' β (s.bt v.shared) a w/\cP (s.env w g β) ((s.bt v.shared).env w g' β)/\Trans w w g g'/\
   ∃cs,cG ((s.bt v.shared).env w g' β) t cs x/\fT t.agg cs y:=by
 obtain⟨g',h1,h2,h3,h4⟩:=eZ v.shared h;obtain⟨cs,hV,hO⟩:=hv.eJ (Ai ht);exact⟨g',h1,h2,h3,cs,sO rfl h.bM h2 v t x cs hV ht h4,by rw[<-UW ht];exact hO⟩
theorem RI{α:Type}{R:List Value->α->Prop}{f:α->List Value->Option (List Value)}(hf:∀x cs r,f x cs=au r->∃c,cs=c++r/\R c x):
  ∀(l:List α) (cs r:List Value),asC f l cs=au r->∃c,cs=c++r/\bq R c l
 |[],cs,r,h=>by simp only[asC,az]at h;exact⟨[],by simp[h],rfl⟩
 |x::xs,cs,r,h=>by
  simp only[asC]at h;cases hx:f x cs with
  |none=>rw[hx]at h;cases h
  |some r1=>
   rw[hx]at h;obtain⟨c1,e1,h1⟩:=hf x cs r1 hx;obtain⟨c2,e2,h2⟩:=RI hf xs r1 r h;exact⟨c1++c2,by rw[e1,e2,aK],c1,c2,rfl,h1,h2⟩
theorem Cf(E:Env):∀(t:Ty) (x:t.den) (cs r:List Value),tt t x cs=au r->∃c,cs=c++r/\cG E t c x
 | .int k,x,cs,r,h=>by
  cases cs with
  |nil=>simp[tt]at h
  |cons v r'=>
   cases v <;> simp only[tt]at h <;> try (cases h;done)
   rename_i k' n;split at h
   ·rename_i h1 h2;simp at h1 h2 h;subst h1 h2 h;exact⟨[.int k n],rfl,by simp[cG]⟩
   ·cases h
 | .bool,x,cs,r,h=>by
  cases cs with
  |nil=>simp[tt]at h
  |cons v r'=>
   cases v <;> simp only[tt]at h <;> try (cases h;done)
   rename_i b;split at h
   ·rename_i h1;simp at h1 h;subst h1 h;exact⟨[.bool b],rfl,by simp[cG]⟩
   ·cases h
 | .str,x,cs,r,h=>by
  cases cs with
  |nil=>simp[tt]at h
  |cons v r'=>
   cases v <;> simp only[tt]at h <;> try (cases h;done)
   rename_i b;split at h
   ·rename_i h1;simp at h1 h;subst h1 h;exact⟨[.string b],rfl,by simp[cG]⟩
   ·cases h
 | .slice t,x,cs,r,h=>by
  cases x with
  |cons _ _=>simp[tt]at h
  |nil=>
   cases cs with
   |nil=>simp[tt]at h
   |cons v r'=>
    unfold tt at h;split at h <;> try (cases h;done)
    all_goals simp_all
    exact⟨[.slice aH 0 0],rfl,by simp only[cG];exact⟨aH,0,[],rfl,by simp,by simp,λi v hh=>by simp at hh,rfl⟩⟩
 | .fX t,x,cs,r,h=>by
  cases x with
  |some _=>simp[tt]at h
  |none=>
   cases cs with
   |nil=>simp[tt]at h
   |cons v r'=>
    unfold tt at h;split at h <;> try (cases h;done)
    all_goals simp_all
    exact⟨[.slice aH 0 0],rfl,by simp[cG]⟩
 | .nL t,x,cs,r,h=>by
  cases x with
  |some _=>simp[tt]at h
  |none=>
   cases cs with
   |nil=>simp[tt]at h
   |cons v r'=>
    unfold tt at h;split at h <;> try (cases h;done)
    all_goals simp_all
    exact⟨[.pointer aH],rfl,by simp[cG]⟩
 | .gR t,x,cs,r,h=>by
  cases x with
  |some _=>simp[tt]at h
  |none=>
   cases cs with
   |nil=>simp[tt]at h
   |cons v r'=>
    unfold tt at h;split at h <;> try (cases h;done)
    all_goals simp_all
    exact⟨[.pointer aH],rfl,by simp[cG]⟩
 | .unit,x,cs,r,h=>by simp only[tt,az]at h;exact⟨[],by simp[h],by simp[cG]⟩
 | .pair a b,x,cs,r,h=>by
  simp only[tt]at h;cases hx:tt a x.1 cs with
  |none=>rw[hx]at h;cases h
  |some r1=>
   rw[hx]at h;obtain⟨c1,e1,h1⟩:=Cf E a x.1 cs r1 hx;obtain⟨c2,e2,h2⟩:=Cf E b x.2 r1 r h;exact⟨c1++c2,by rw[e1,e2,aK],by simp only[cG];exact⟨c1,c2,rfl,h1,h2⟩⟩
 | .arr n t,x,cs,r,h=>by
  simp only[tt]at h;split at h
  ·rename_i h1;obtain⟨c,e,hc⟩:=RI (λx cs r hh=>Cf E t x cs r hh) _ _ _ h;exact⟨c,e,by simp only[cG];exact⟨by simpa using h1,hc⟩⟩
  ·cases h
theorem ahy(E:Env):∀(a:aF) (cs r:List Value),P3 a cs=au r->∃c,cs=c++r/\V E a c:=by
 intro a
 induction a with
 |d t x=>
  intro cs r h;simp only[P3]at h;obtain⟨c,e,hc⟩:=Cf E t x cs r h;exact⟨c,e,by simpa only[V]using hc⟩
 |pr a b iha ihb=>
  intro cs r h;simp only[P3]at h;cases hx:P3 a cs with
  |none=>rw[hx]at h;cases h
  |some r1=>
   rw[hx]at h;obtain⟨c1,e1,h1⟩:=iha cs r1 hx;obtain⟨c2,e2,h2⟩:=ihb r1 r h;exact⟨c1++c2,by rw[e1,e2,aK],by simp only[V];exact⟨c1,c2,rfl,h1,h2⟩⟩
 |dd=>intro cs r h;unfold P3 at h;split at h <;> simp_all <;> exact⟨[.slice aH 0 0],rfl,by simp[V]⟩
 |jW=>intro cs r h;unfold P3 at h;split at h <;> simp_all <;> exact⟨[.pointer aH],rfl,by simp[V]⟩
 |vB=>intro cs r h;unfold P3 at h;split at h <;> simp_all <;> exact⟨[.nilFunc],rfl,by simp[V]⟩
 |AL=>intro cs r h;unfold P3 at h;split at h <;> simp_all <;> exact⟨[.map aH],rfl,by simp[V]⟩
 |_=>intro cs r h;simp[P3]at h
theorem tY{P:aL}{T:TypeId}{z:aF}(h:ab2 P T z=aO)(E:Env):
  ∃i zv,P.info? T=au i/\i.zero=au zv/\V E z zv.cells.toList/\fT z.agg zv.cells.toList zv:=by
 unfold ab2 at h;split at h <;> try (cases h;done)
 rename_i i hi;split at h <;> try (cases h;done)
 rename_i zv hz;simp only[al,dw]at h;obtain⟨h1,h2⟩:=h;split at h1 <;> try (cases h1;done)
 rename_i he;obtain⟨c,e,hV⟩:=ahy E z _ _ he;rw[bo]at e;rw[<-e]at hV;refine⟨i,zv,hi,hz,hV,?_⟩;cases adM:z.agg with
 |true=>
  rw[adM]at h2;cases zv <;> simp[qJ]at h2;simp[fT,Value.cells]
 |false=>
  rw[adM]at h2;cases zv <;> first | (simp[qJ]at h2;done) | simp[fT,Value.cells]
end Go.Ab
namespace Go.Ab
def Fr(r:Option Nat):Fence:= {Fence.wide with round:=r}
def fG(P:aL)(o:Oper)(a:Act)(w:bV)(K:Act->bV->Prop):Prop:=(∃x w',(execOp a.eval o).run P w= .ok (.value x) w'/\K (a.put o.dst x) w')\/(∃w',(execOp a.eval o).run P w= .ok .skip w'/\K (a.put o.dst undef) w')\/(∃f args w',(execOp a.eval o).run P w= .ok (.enter f args) w'/\Calls P f args w' λe w''=>∃x,e= .returned x/\K (a.put o.dst x) w'')\/(∃l f tmps as b w',(execOp a.eval o).run P w= .ok (.round l f tmps as b) w'/\∀r n,RoundIn (Fr r) n P l f tmps as b w' λe w''=>∃x,e= .returned x/\K (a.put o.dst x) w'')
theorem fG.plain{P:aL}{o:Oper}{a:Act}{w:bV}{K:Act->bV->Prop}(h:fG P o a w K)(c:Call):o.op≠ .defer c:=λho=>by
 have hd:∀x w',(execOp a.eval o).run P w= .ok x w'->∃d,x= .defer d:=λx w' hx=>by
  simp only[execOp,ho,cg]at hx;cases hr:(resolve a.eval c o.type).run P w with
  |ok d w1=>
   rw[hr]at hx;simp only[bE,dK,Result.ok.injEq]at hx;exact⟨d,hx.1.symm⟩
  |halt _ _=>rw[hr]at hx;simp[Result.andThen]at hx
 rcases h with⟨x,w',hr,_⟩ | ⟨w',hr,_⟩ | ⟨f,args,w',hr,_⟩ | ⟨l,f,tmps,as,b,w',hr,_⟩
 ·obtain⟨d,e⟩:=hd _ _ hr;cases e
 ·obtain⟨d,e⟩:=hd _ _ hr;cases e
 ·obtain⟨d,e⟩:=hd _ _ hr;cases e
 ·obtain⟨d,e⟩:=hd _ _ hr;cases e
theorem fG.wpIn{r:Option Nat}{n:Nat}{P:aL}{o:Oper}{a:Act}{w:bV}{K:Act->bV->Prop}{Q:Exit->Act->bV->Prop}(h:fG P o a w K):o.wpIn (Fr r) n P a w K Q:=by
 have hp:=h.plain;refine⟨λ_ _=>trivial,?_⟩;rw[Oper.semAt_eq _ _ _ hp];rcases h with⟨x,w',hr,hk⟩ | ⟨w',hr,hk⟩ | ⟨f,args,w',hr,hk⟩ | ⟨l,f,tmps,as,b,w',hr,hk⟩;rotate_left 3
 ·rw[hr,Oper.uponIn_round];refine⟨λh=>(by cases h),(hk r (n - 1)).mono λe w'' ⟨x,he,hx⟩=> ?_⟩;subst he;exact hx
 ·rw[hr,Oper.uponIn_value];exact hk
 ·rw[hr,Oper.uponIn_skip];exact hk
 ·rw[hr,Oper.uponIn_enter];refine⟨λh=>(by cases h),?_⟩;have h1:CallsIn (Fr r) (n - 1) P f args w' _:=callsIn_wide.2 hk;refine h1.mono λe w'' ⟨x,he,hx⟩=> ?_
  subst he;exact hx
theorem fG.mono{P:aL}{o:Oper}{a:Act}{w:bV}{K K':Act->bV->Prop}(h:fG P o a w K)(hk:∀a w,K a w->K' a w):fG P o a w K':=by
 rcases h with⟨x,w',hr,h⟩ | ⟨w',hr,h⟩ | ⟨f,args,w',hr,h⟩ | ⟨l,f,tmps,as,b,w',hr,h⟩
 ·exact .inl ⟨x,w',hr,hk _ _ h⟩
 ·exact .inr (.inl ⟨w',hr,hk _ _ h⟩)
 ·exact .inr (.inr (.inl ⟨f,args,w',hr,h.mono λe w'' ⟨x,he,hx⟩=>⟨x,he,hk _ _ hx⟩⟩))
 ·exact .inr (.inr (.inr ⟨l,f,tmps,as,b,w',hr,λr n=>(h r n).mono λe w'' ⟨x,he,hx⟩=>⟨x,he,hk _ _ hx⟩⟩))
section
variable {P:aL} {C:Ctx} {g:Nat->lA} {β:Id->Option Pl} {s:AS} {a:Act} {w:bV} {o:Oper}
theorem Inv.value(h:Inv C g β s a w){v:aF}{x:Value}(hv:VS (s.env w g β) v x)(hr:(execOp a.eval o).run P w= .ok (.value x) w):fG P o a w (gW C (s.put o.dst v)):= .inl ⟨x,w,hr,g,β,h.put o.dst hv⟩
theorem dU{f:Sem Value}{x:Value}{w':bV}(he:execOp a.eval o=(do pure (.value (<-f))))(hf:f.run P w= .ok x w'):(execOp a.eval o).run P w= .ok (.value x) w':=by rw[he,cg,hf];rfl
theorem Xs{f:Sem Unit}{w':bV}(he:execOp a.eval o=(do f;pure .skip))(hf:f.run P w= .ok () w'):(execOp a.eval o).run P w= .ok .skip w':=by rw[he,cg,hf];rfl
theorem tz{E:Env}{k:ki}{n:Int}{y:Value}(h:VS E (.d (.int k) n) y):y= .int k n:=by obtain⟨cs,hv,ho⟩:=h;simp only[V,cG]at hv;have ho':cs=[y]:=ho;rw[hv]at ho';simpa using ho'.symm
theorem Qm{E:Env}{b:Bool}{y:Value}(h:VS E (.d .bool b) y):y= .bool b:=by obtain⟨cs,hv,ho⟩:=h;simp only[V,cG]at hv;have ho':cs=[y]:=ho;rw[hv]at ho';simpa using ho'.symm
theorem Fu{E:Env}{b:ByteArray}{y:Value}(h:VS E (.d .str b) y):y= .string b:=by obtain⟨cs,hv,ho⟩:=h;simp only[V,cG]at hv;have ho':cs=[y]:=ho;rw[hv]at ho';simpa using ho'.symm
theorem kS{E:Env}(k:ki)(n:Int):VS E (.d (.int k) n) (.int k n):=⟨[.int k n],by simp[V,cG],rfl⟩
theorem ua{E:Env}(b:Bool):VS E (.d .bool b) (.bool b):=⟨[.bool b],by simp[V,cG],rfl⟩
theorem Y2{E:Env}(b:ByteArray):VS E (.d .str b) (.string b):=⟨[.string b],by simp[V,cG],rfl⟩
theorem ale{T:TypeId}{d:TypeDesc}(h:P.underlying T=au d):∃i,P.info? T=au i:=by
 unfold Program.underlying at h;split at h
 ·rename_i h';exact⟨_,h'⟩
 ·rename_i i _ h';exact⟨_,h'⟩
 ·cases h
theorem run_sizeOf{T:TypeId}{i:TypeInfo}(h:P.info? T=au i)(w:bV):(sizeOf T).run P w= .ok i.size w:=by simp[sizeOf,typeInfo,h]
theorem mr{T:TypeId}{i:TypeInfo}(h:P.info? T=au i):P.cellsOf T=i.size:=by simp[Program.cellsOf,h]
theorem qH{T:TypeId}{v:aF}(h:fits P T v=aO):v.eJ=aO/\∃i,P.info? T=au i/\i.size=v.size/\∀w,(isAgg T).run P w= .ok v.agg w:=by
 unfold fits at h;simp only[al,dw]at h;obtain⟨⟨h1,h2⟩,h3⟩:=h;cases hu:P.underlying T with
 |none=>rw[hu]at h3;cases h3
 |some d=>
  obtain⟨i,hi⟩:=ale hu;refine⟨h1,i,hi,by rw[mr hi]at h2;exact h2,λw=> ?_⟩;rw[hu]at h3;unfold isAgg;rw[cg,run_underlying hu w];cases d <;> simp at h3 <;> simp[h3]
theorem sI{T:TypeId}{v:aF}(hf:fits P T v=aO){b off:Nat}{cs:List Value}(hl:cs.length=v.size)(hc:∀j x,cs[j]? =au x->w.cell? ⟨b,off+j,aH⟩=au x):
  ∃y,(loadVar T ⟨b,off,aH⟩).run P w= .ok y w/\fT v.agg cs y:=by
 obtain⟨_,i,hi,hs,adM⟩:=qH hf;unfold loadVar;rw[cg,adM w];simp only[bE];have Bt:∀j x,cs[j]? =au x->w.cell? ((⟨b,off,aH⟩:Addr).add j)=au x:=λj x hj=>by rw[fv];exact hc j x hj
 cases ha:v.agg with
 |true=>
  refine⟨.agg cs.toArray,?_,rfl⟩;simp only[cZ,cg,run_sizeOf hi,bE,hs,<-hl,run_loadCells_list w _ cs Bt];rfl
 |false=>
  have h1:v.size=1:=aF.afP ha;obtain⟨y,rfl⟩:∃y,cs=[y]:=by
   match cs,hl with
   |[y],_=>exact⟨y,rfl⟩
   |[],hh=>simp[h1]at hh
   |_::_::_,hh=>simp[h1]at hh
  refine⟨y,?_,rfl⟩;have:=hc 0 y rfl;rw[ct]at this;simp[this]
theorem Dj{T:TypeId}{v:aF}{E:Env}(hf:fits P T v=aO){cs:List Value}{y:Value}(hV:V E v cs)(ho:fT v.agg cs y){b off:Nat}{cur:Array Value}{e:TypeId}
  (hh:w.heap[b]? =au (.cells cur e (0,0))) (hle:off+cs.length<=cur.size):
  (storeVar T ⟨b,off,aH⟩ y).run P w= .ok () (w.setRow b (dx cur.toList off cs).toArray):=by
 obtain⟨_,i,hi,hs,_⟩:=qH hf;have anS:y.cells=cs.toArray:=ho.cells hV.one;have hl:=hV.size;have nw:=run_storeCells_at P b off e cs 0 cur w hh (by simpa using hle) hV.one;simp only[ct]at nw;unfold storeVar;simp only[anS,cg,run_sizeOf hi,bE,hZ,hl,hs,ne_eq,not_true_eq_false,cK];simpa[dx]using nw
theorem pW(w:bV)(ob:Obj){b:Nat}(h:b < w.heap.size):(w.alloc ob).heap[b]? =w.heap[b]? :=by
 show(w.heap.push ob)[b]? =w.heap[b]?
 rw[Array.getElem?_push,if_neg (Nat.ne_of_lt h)]
theorem rV(w:bV)(ob:Obj):(w.alloc ob).heap[w.heap.size]? =au ob:=by
 show(w.heap.push ob)[w.heap.size]? =au ob
 simp
theorem Trans.alloc(w:bV)(g:Nat->lA)(ob:Obj)(l:lA):Trans w (w.alloc ob) g (mM g w.heap.size l):=by
 refine⟨rfl,rfl,⟨rfl,aC _⟩,by simp,λb hb=> ?_⟩;rw[fD _ _ _ aq,pW w ob hb];cases g b with
 |free=>exact⟨rfl,rfl⟩
 |own o k=>cases o with
  |ez=>exact⟨rfl,rfl⟩
  |id i=>exact⟨.inr ⟨i,k,rfl,aC _⟩,λoff v _ hv=>by rw[World.cell?_alloc_lt w ob _ hb];exact hv⟩
theorem Trans.drew(w:bV)(g:Nat->lA):Trans w w.drew g g:=Trans.refl w g |> λh=>⟨h.os,h.tape,⟨h.output.1,Nat.le_succ _⟩,h.size,h.Mn⟩
theorem iR.same{w':bV}{g':Nat->lA}(h:iR (s.env w g β))(he:cP (s.env w g β) (s.env w' g' β))(hb:∀i ver fr c pl,s.bS i=au (.obj ver fr c)->β i=au pl->w'.heap[pl.b]? =w.heap[pl.b]? /\g' pl.b=g pl.b):iR (s.env w' g' β):=λi ver fr c hi=>(h i ver fr c hi).mono he rfl (λpl hp=>hb i ver fr c pl hi hp) λq vq k v l hq _=>⟨⟨k,v,l,hq⟩,λpl hp=>hb q vq aO _ pl hq hp⟩
theorem cP.same{w':bV}{g':Nat->lA}(ht:Trans w w' g g'):cP (s.env w g β) (s.env w' g' β):=⟨Trans.mem ht,λ_ _ h=>h,λ_ _ _ h=>⟨h,rfl⟩⟩
theorem Inv.FT(h:Inv C g β s a w)(ob:Obj):Inv C (mM g w.heap.size .free) β s a (w.alloc ob):=by have ht:=Trans.alloc w g ob .free;have he:cP (s.env w g β) (s.env (w.alloc ob) (mM g w.heap.size .free) β):=cP.same ht;refine h.step rfl ht he (iR.same h.bM he λi ver fr c pl hi hp=> ?_);have hl:=((h.bM i ver fr c hi).label (pl:=pl) hp).1;have hl':pl.b < w.heap.size:=hl;exact⟨pW w ob hl',fD _ _ _ aq⟩
theorem Inv.drew(h:Inv C g β s a w):Inv C g β s a w.drew:=by have ht:=Trans.drew w g;have he:cP (s.env w g β) (s.env w.drew g β):=cP.same ht;exact h.step rfl ht he (iR.same h.bM he λ_ _ _ _ _ _ _=>⟨rfl,rfl⟩)
theorem jX{q:Nat}(h:s.dW q=aO):(∀j,s.bS (.new q j)=aH)/\q < s.news.length:=by
 unfold AS.dW at h;split at h
 ·rename_i hn;refine⟨λj=> ?_,(dF.1 hn).1⟩;simp[AS.bS,aJ,hn]
 ·cases h
theorem w8{q:Nat}(hq:q < s.news.length)(es:List dE)(j:Nat):(s.born q es).bS (.new q j)=es[j]? :=by simp[AS.bS,AS.born,aJ,hq]
theorem jc{q:Nat}(es:List dE){id:Id}(h:∀j,id≠ .new q j):(s.born q es).bS id=s.bS id:=by
 cases id with
 |bF k=>rfl
 |new i j=>
  have:i≠q:=λe=>h j (by rw[e])
  simp only[AS.bS,AS.born,aJ];rw[dY (Ne.symm this)]
def FP(β:Id->Option Pl)(id:Id)(p:Option Pl):Id->Option Pl:=λi=>if i=id then p else β i
@[simp] theorem jP(β:Id->Option Pl)(id:Id)(p:Option Pl):FP β id p id=p:=by simp[FP]
theorem zl(β:Id->Option Pl)(id:Id)(p:Option Pl){i:Id}(h:i≠id):FP β id p i=β i:=by simp[FP,h]
theorem Inv.Mo(h:Inv C g β s a w){q:Nat}(hq:s.dW q=aO){w':bV}{g':Nat->lA}{c:aF}{p:Option Pl}(ht:Trans w w' g g')
  (hb:∀b,b < w.heap.size->w'.heap[b]? =w.heap[b]? /\g' b=g b)
  (ho:cP (s.env w g β) ((s.born q [.obj 0 aV c]).env w' g' (FP β (.new q 0) p))->u6 ((s.born q [.obj 0 aV c]).env w' g' (FP β (.new q 0) p)) (.new q 0) aV c):
  Inv C g' (FP β (.new q 0) p) (s.born q [.obj 0 aV c]) a w'/\cP (s.env w g β) ((s.born q [.obj 0 aV c]).env w' g' (FP β (.new q 0) p)):=by
 obtain⟨hv,hl⟩:=jX hq;have gV:∀id,s.bS id≠aH->∀j,id≠ .new q j:=λid c8 j e=>c8 (by rw[e];exact hv j)
 have he:cP (s.env w g β) ((s.born q [.obj 0 aV c]).env w' g' (FP β (.new q 0) p)):=by
  refine⟨Trans.mem ht,λid ver adO=> ?_,λid ver adO hc=> ?_⟩
  ·have c8:=gV id adO.1;have e:=jc (s:=s) [.obj 0 aV c] c8;exact⟨by show(s.born q _).bS id≠aH;rw[e];exact adO.1,λv fr c' hh=>adO.2 v fr c' (e.symm.trans hh)⟩
  ·have c8:=gV id adO.1;have e:=jc (s:=s) [.obj 0 aV c] c8;obtain⟨fr,c',hc⟩:=hc;exact⟨⟨fr,c',e.symm.trans hc⟩,zl _ _ _ (c8 0)⟩
 refine⟨h.step rfl ht he λid ver fr c' c8=> ?_,he⟩;have hid':(s.born q [.obj 0 aV c]).bS id=au (.obj ver fr c'):=c8;by_cases hi:∃j,id= .new q j
 ·obtain⟨j,rfl⟩:=hi;rw[w8 hl]at hid';cases j with
  |zero=>
   simp only[fR,az,dE.obj.injEq]at hid';obtain⟨rfl,rfl,rfl⟩:=hid';exact ho he
  |succ j=>simp at hid'
 ·have hi':∀j,id≠ .new q j:=λj e=>hi ⟨j,e⟩
  rw[jc _ hi']at hid';refine(h.bM id ver fr c' hid').mono he (zl _ _ _ (hi' 0)) (λpl hp=> ?_) λq2 vq k v l MP _=> ?_
  ·exact hb pl.b ((h.bM id ver fr c' hid').label (pl:=pl) hp).1
  ·have aHh:s.bS q2=au (.obj vq aO (.mp k v l)):=MP;refine⟨⟨k,v,l,by show(s.born q _).bS q2=_;rw[jc _ (gV q2 (by rw[aHh];simp))];exact aHh⟩,λpl hp=>hb pl.b ((h.bM q2 vq aO _ aHh).label (pl:=pl) hp).1⟩
theorem pa{q:Nat}(hq:s.dW q=aO)(c:aF)(w':bV)(g':Nat->lA)(β':Id->Option Pl):((s.born q [.obj 0 aV c]).env w' g' β').C8 (.new q 0) 0:=by have e:=w8 (s:=s) (jX hq).2 [.obj 0 aV c] 0;refine⟨by show(s.born q [.obj 0 aV c]).bS (.new q 0)≠aH;rw[e];simp,λv fr c' _=>aS _⟩
theorem Inv.alv(h:Inv C g β s a w){q:Nat}(hq:s.dW q=aO){v:aF}{cs:List Value}{e:TypeId}(hk:∀pl n,v.DQ pl n e)(hN:∀n,v.vc n=n)(hv:V (s.env w g β) v.strip cs):
  ∃g' β',Inv C g' β' (s.born q [.obj 0 aV v]) a (w.alloc (.cells cs.toArray e))/\
   VS ((s.born q [.obj 0 aV v]).env (w.alloc (.cells cs.toArray e)) g' β') (.ptr (.new q 0) 0 [] 0) (.pointer (au ⟨w.heap.size,0,aH⟩)):=by
 have ht:=Trans.alloc w g (.cells cs.toArray e) (.own (.id (.new q 0)) 0);obtain⟨h1,h2⟩:=h.Mo hq (c:=v) (p:=au ⟨w.heap.size,0⟩) ht (λb hb=>⟨pW w _ hb,fD _ _ _ aq⟩) (λhe=>
  Mb.obj ⟨⟨w.heap.size,0⟩,cs.toArray,e,jP _ _ _,rV w _,fI _ _ _,hk _ _,by rw[hN,show cs.toArray.toList.take cs.toArray.size=cs by simp];exact hv.mono he⟩)
 refine⟨_,_,h1,?_⟩;refine⟨[.pointer (au ⟨w.heap.size,0,aH⟩)],?_,rfl⟩;simp only[V];exact⟨_,rfl,pa hq _ _ _ _,λ_=>⟨_,jP _ _ _,rfl⟩⟩
theorem Inv.aCD(h:Inv C g β s a w){q:Nat}(hq:s.dW q=aO){v:aF}{cs:List Value}(hv:V (s.env w g β) v cs)(e:TypeId):
  ∃g' β',Inv C g' β' (s.born q [.obj 0 aV v]) a (w.alloc (.cells cs.toArray e))/\
   VS ((s.born q [.obj 0 aV v]).env (w.alloc (.cells cs.toArray e)) g' β') (.ptr (.new q 0) 0 [] 0) (.pointer (au ⟨w.heap.size,0,aH⟩)):=
 h.alv hq (λpl n=>Mr hv.yR pl n e) (λn=>Q6 hv.yR n) (by rw[NM hv.yR];exact hv)
theorem arA(P:aL)(T:TypeId){z:aF}{E:Env}{cs:List Value}(hv:V E z cs):(∀pl n,(boxed P T z).DQ pl n T)/\(∀n,(boxed P T z).vc n=n)/\V E (boxed P T z).strip cs:=by
 unfold boxed;split
 ·exact⟨λ_ _=>rfl,λ_=>rfl,hv⟩
 ·exact⟨λpl n=>Mr hv.yR pl n T,λn=>Q6 hv.yR n,by rw[NM hv.yR];exact hv⟩
theorem Inv.ayQ(h:Inv C g β s a w){t:Ty}{x:t.den}{cs:List Value}(hv:cG (s.env w g β) t cs x)(e:TypeId):
  ∃g',Inv C g' β s a (w.alloc (.cells cs.toArray e))/\cP (s.env w g β) (s.env (w.alloc (.cells cs.toArray e)) g' β)/\
   VS (s.env (w.alloc (.cells cs.toArray e)) g' β) (.eG t x) (.pointer (au ⟨w.heap.size,0,aH⟩)):=by
 have ht:=Trans.alloc w g (.cells cs.toArray e) .free;have he:cP (s.env w g β) (s.env (w.alloc (.cells cs.toArray e)) (mM g w.heap.size .free) β):=cP.same ht;refine⟨_,h.FT _,he,[.pointer (au ⟨w.heap.size,0,aH⟩)],?_,rfl⟩;simp only[V];refine⟨w.heap.size,0,cs,rfl,λi v hi=>⟨_,_,rfl,?_,?_⟩,hv.mono he.mem⟩
 ·show(w.alloc (.cells cs.toArray e)).cell? ⟨w.heap.size,0+i,aH⟩=au v;rw[World.cell?_alloc_new,aU];simpa using hi
 ·show rH (mM g w.heap.size .free) w.heap.size (0+i);unfold rH;rw[fI];trivial
theorem Un(T:TypeId)(y:Value)(w:bV):(newVar T y).run P w= .ok ⟨w.heap.size,0,aH⟩ (w.alloc (.cells y.cells T)):=by simp[newVar,newRow]
theorem agL(h:Inv C g β s a w){T:TypeId}(ho:o.op= .alloc T){z:aF}{q:Nat}(hq:s.dW q=aO)(hz:ab2 P T z=aO):
  fG P o a w (gW C ((s.born q [.obj 0 aV (boxed P T z)]).put o.dst (.ptr (.new q 0) 0 [] 0))):=by
 obtain⟨i,zv,hi,agy,hV,hO⟩:=tY hz (s.env w g β);obtain⟨hk,hN,hV⟩:=arA P T hV;obtain⟨g',β',h1,h2⟩:=h.alv hq hk hN hV;refine .inl ⟨.pointer (au ⟨w.heap.size,0,aH⟩),w.alloc (.cells zv.cells T),?_,g',β',?_⟩
 ·refine dU (f:=Instr.alloc T aO (.tuple #[])) (by simp only[execOp,ho]) ?_
  simp[Instr.alloc,zeroValue,typeInfo,hi,agy,Un]
 ·have:=h1.put o.dst h2;simpa using this
theorem VS.aFe{E:Env}{t:Ty}{x:t.den}{y:Value}(h:VS E (.eG t x) y)(dt:Bool):VS E (aBm dt t x) y:=by
 cases dt with
 |false=>exact h
 |true=>
  obtain⟨cs,hv,ho⟩:=h;simp only[V]at hv;refine⟨cs,?_,ho⟩;simp only[aBm,V,cG];simpa using hv
theorem XI{E:Env}{t:Ty}{y:Value}(h:VS E (.d (.nL t) aH) y):y= .pointer aH:=by obtain⟨cs,hv,ho⟩:=h;simp only[V,cG]at hv;have ho':cs=[y]:=ho;have e:=hv.1 trivial;rw[e]at ho';simpa using ho'.symm
theorem J1{E:Env}{t:Ty}{x:t.den}{y:Value}(h:VS E (.d (.nL t) (au x)) y):VS E (.eG t x) y:=by obtain⟨cs,hv,ho⟩:=h;simp only[V,cG]at hv;refine⟨cs,?_,ho⟩;simp only[V];simpa using hv
theorem XQ{E:Env}{t:Ty}{y:Value}(h:VS E (.d (.gR t) aH) y):y= .pointer aH:=by obtain⟨cs,hv,ho⟩:=h;simp only[V,cG]at hv;have ho':cs=[y]:=ho;have e:=hv.1 trivial;rw[e]at ho';simpa using ho'.symm
theorem ayr{E:Env}{t:Ty}{x:Nat×t.den}{y:Value}(h:VS E (.d (.gR t) (au x)) y):y= .pointer (au ⟨x.1,0,aH⟩)/\(∃ca T,E.g x.1= .free/\E.w.heap[x.1]? =au (.cells ca T (0,0)))/\VS E (.eG t x.2) y:=by obtain⟨cs,hv,ho⟩:=h;simp only[V,cG]at hv;have ho':cs=[y]:=ho;obtain⟨ca,T,vs,e,h0,hr,hR⟩:=hv.2 x rfl;refine⟨by rw[e]at ho';simpa using ho'.symm,⟨ca,T,h0⟩,cs,?_,ho⟩;simp only[V];exact⟨_,_,vs,e,hr,hR⟩
theorem Kf{E:Env}{t:Ty}{x:Nat×t.den}{y:Value}(h:VS E (.d (.gR t) (au x)) y):VS E (.eG t x.2) y:=(ayr h).2.2
theorem arz(h:Inv C g β s a w){T:TypeId}{x:bI}{obj dt:Bool}(ho:o.op= .box T x){s':AS}(he:(acF P s obj dt o.dst T (s.ev x)).eval=au s'):fG P o a w (gW C s'):=by
 unfold acF at he;cases hd:o.dst with
 |none=>rw[hd]at he;simp only[av]at he
 |some q=>
  rw[hd]at he;have adR:=h.ev x;have pb:∀cs:List Value,(a.eval x).cells=cs.toArray->(execOp a.eval o).run P w= .ok (.value (.pointer (au ⟨w.heap.size,0,aH⟩))) (w.alloc (.cells cs.toArray T)):=by
   intro cs anS;refine dU (f:=Instr.box T (a.eval x)) (by simp only[execOp,ho]) ?_
   simp[Instr.box,Un,anS]
  cases obj with
  |true=>
   obtain⟨hg,iS⟩:=aI.1 he;obtain rfl:=ay.1 iS;simp only[al]at hg;obtain⟨hq,hf⟩:=hg;obtain⟨hc,_⟩:=qH hf;obtain⟨cs,hV,hO⟩:=adR.eJ hc;obtain⟨g',β',h1,h2⟩:=h.aCD hq hV T;refine .inl ⟨_,_,pb cs (hO.cells hV.one),g',β',?_⟩;rw[hd];exact h1.put (au q) h2
  |false=>
   simp only at he;cases ht:agl P depth T with
   |none=>rw[ht]at he;simp only[av]at he
   |some t=>
    rw[ht]at he;obtain⟨_,he⟩:=aI.1 he;obtain⟨y,h1,h2⟩:=aw.1 he;obtain rfl:=ay.1 h2;obtain⟨g1,i1,e1,t1,cs,hR,hO⟩:=ze h adR h1;obtain⟨g2,i2,e2,hv⟩:=i1.ayQ hR T;refine .inl ⟨_,_,pb cs (hO.cells hR.one),g2,β,?_⟩;rw[hd];exact i2.put (au q) (hv.aFe dt)
theorem mG{E:Env}{t:Ty}{x:t.den}{y:Value}(h:VS E (.eG t x) y):∃b off vs,y= .pointer (au ⟨b,off,aH⟩)/\wB E (au ⟨b,off,aH⟩) vs/\cG E t vs x:=by obtain⟨cs,hv,ho⟩:=h;simp only[V]at hv;obtain⟨b,off,vs,e,hr,hx⟩:=hv;have ho':cs=[y]:=ho;rw[e]at ho';exact⟨b,off,vs,by simpa using ho'.symm,hr,hx⟩
theorem sG{E:Env}{id:Id}{ver n:Nat}{p:List Gs}{y:Value}(h:VS E (.ptr id ver p n) y):
  ∃a,y= .pointer (au a)/\E.C8 id ver/\(E.cur id ver->∃pl,E.β id=au pl/\a=⟨pl.b,n,aH⟩):=by
 obtain⟨cs,hv,ho⟩:=h;simp only[V]at hv;obtain⟨a,e,hb,hc⟩:=hv;have ho':cs=[y]:=ho;rw[e]at ho';exact⟨a,by simpa using ho'.symm,hb,hc⟩
theorem qn{E:Env}{id:Id}{ver c i len:Nat}{p:List Gs}{y:Value}(h:VS E (.cM id ver p c i len) y):
  ∃a cap,y= .slice a len cap/\len<=cap/\(0 < len->a.isSome=aO)/\E.C8 id ver/\
   (E.cur id ver->match E.β id with
    |some pl=>(0 < len\/i=0->a=au ⟨pl.b,c,aH⟩)/\(p=[]->i=0->cap=pl.cap)
    |none=>a=aH/\len=0/\cap=0):=by
 obtain⟨cs,hv,ho⟩:=h;simp only[V]at hv;obtain⟨a,cap,e,rest⟩:=hv;have ho':cs=[y]:=ho;rw[e]at ho';exact⟨a,cap,by simpa using ho'.symm,rest⟩
theorem sK{E:Env}{t:Ty}{l:List t.den}{y:Value}(h:VS E (.d (.slice t) l) y):
  ∃a cap vs,y= .slice a l.length cap/\l.length<=cap/\(0 < l.length->a.isSome=aO)/\wB E a vs/\bq (cG E t) vs l:=by
 obtain⟨cs,hv,ho⟩:=h;simp only[V,cG]at hv;obtain⟨a,cap,vs,e,rest⟩:=hv;have ho':cs=[y]:=ho;rw[e]at ho';exact⟨a,cap,vs,by simpa using ho'.symm,rest⟩
theorem kH{E:Env}{y:Value}(h:VS E .dd y):y= .slice aH 0 0:=by obtain⟨cs,hv,ho⟩:=h;simp only[V]at hv;have ho':cs=[y]:=ho;rw[hv]at ho';simpa using ho'.symm
theorem aoL{E:Env}{id:Id}{fr:Bool}{c:aF}(h:u6 E id fr c){p:List Gs}{n:Nat}{v:aF}(hl:(loc c.strip p).eval=au (n,v))(hf:v.eJ=aO):
  ∃pl cur e,E.β id=au pl/\E.w.heap[pl.b]? =au (.cells cur e (0,0))/\V E v ((cur.toList.drop n).take v.size)/\n+v.size<=cur.size:=by
 by_cases hn:c.ix=aV
 ·obtain⟨pl,cur,e,hp,hh,hg,hk,hV⟩:=h.box hn;have hN:=Qo hk;generalize c.vc cur.size=N at hN hV;have hNl:(cur.toList.take N).length=N:=by rw[bZ,cO];omega
  obtain⟨u,hu⟩:∃u,c.strip=u:=⟨_,rfl⟩;rw[hu]at hV hl;rcases ri p u (cur.toList.take N) n v (VO.of hV) hl with⟨rfl,rfl⟩ | ⟨h1,h2⟩
  ·have hs:=hV.size;rw[hNl]at hs;refine⟨pl,cur,e,hp,hh,?_,aq⟩;rw[aN,<-hs];exact hV
  ·rw[hNl]at h2;rw[rR,jU,fF aq]at h1;exact⟨pl,cur,e,hp,hh,h1,aq⟩
 ·cases c <;> first | (exact absurd rfl hn) | skip
  rotate_left
  ·have hl:(loc (.mp _ _ _) p).eval=_:=hl;obtain⟨_,rfl⟩:=aap hl;simp[aF.eJ]at hf
  ·have hl:(loc (.qa _ _ _ _ _ _) p).eval=_:=hl;obtain⟨_,rfl⟩:=QB hl;simp[aF.eJ]at hf
  ·have hl:(loc (.uN _ _ _) p).eval=_:=hl;obtain⟨_,rfl⟩:=QC hl;simp[aF.eJ]at hf
  rename_i e t l;obtain⟨hz,h⟩:=h;cases hp:E.β id with
  |none=>
   rw[hp]at h;have:l=[]:=h;subst this;obtain⟨_,rfl⟩:=Sx hl;simp[aF.eJ]at hf
  |some pl=>
   rw[hp]at h;obtain⟨cur,k,q1,q2,q3,q4,q5,q6,q7,q8⟩:=h;have hlen:=bq.length (λc x hx=>cG.size hx) q8;have re:l.length*t.size<=cur.size:=by rw[q2];exact cT _ q3
   rcases ri (E:=E) p (.vec e t l) _ n v q8 hl with⟨rfl,rfl⟩ | ⟨h1,h2⟩
   ·simp[aF.eJ]at hf
   ·rw[hlen]at h2;rw[rR,jU,fF aq]at h1;exact⟨pl,cur,e,rfl,q1,h1,aq⟩
theorem aoI{E:Env}{v v':aF}(h:(aCG v).eval=au v'):(∀cs,V E v cs->V E v' cs)/\v'.agg=v.agg:=by
 unfold aCG at h;split at h
 ·rename_i t l;obtain⟨h1,h2⟩:=bQ.1 h;obtain rfl:=ay.1 h2;refine⟨λcs hv=> ?_,rfl⟩;simp only[V,cG]at hv ⊢;exact hv.1 (Option.isNone_iff_eq_none.1 h1)
 ·obtain rfl:=ay.1 h;exact⟨λ_ h=>h,rfl⟩
theorem Sw(h:Inv C g β s a w){T:TypeId}{x:aF}{y:Value}(hx:VS (s.env w g β) x y){v:aF}(he:(Kp P s T x).eval=au v):
  ∃ad z,y= .pointer (au ad)/\(loadVar T ad).run P w= .ok z w/\VS (s.env w g β) v z:=by
 unfold Kp at he;split at he
 ·rename_i id ver p n;cases j6:s.obj id with
  |none=>rw[j6]at he;simp only[av]at he
  |some r=>
   obtain⟨v0,fr,c⟩:=r;rw[j6]at he;obtain⟨h1,h2⟩:=aI.1 he;obtain⟨⟨n',v'⟩,h3,h4⟩:=aw.1 h2;obtain⟨h5,h6⟩:=aI.1 h4;obtain⟨h7,h8⟩:=bQ.1 h6;obtain⟨n1,n2⟩:=aoI (E:=s.env w g β) h8;simp only[aR]at h7;have aDL:v0=ver:=by simpa using h1
   subst aDL h7;have cI:=dO j6;obtain⟨ad,rfl,hb,hc⟩:=sG hx;obtain⟨pl,hp,rfl⟩:=hc ⟨fr,c,cI⟩;obtain⟨ahU,_⟩:=qH h5;obtain⟨pl',cur,e,hp',hh,hV,hle⟩:=aoL (h.bM id v0 fr c cI) h3 ahU;rw[hp]at hp';obtain rfl:pl=pl':=by simpa using hp'
   obtain⟨z,Ma,Ka⟩:=sI (P:=P) (w:=w) h5 (b:=pl.b) (off:=n') hV.size (λj x hj=>by
    rw[cell_of_row w pl.b (n'+j) cur e (0,0) hh];rw[cU]at hj;split at hj
    ·rw[fx]at hj;simpa using hj
    ·cases hj)
   exact⟨_,z,rfl,Ma,VS.of (n1 _ hV) (by rw[n2];exact Ka)⟩
 ·rename_i t x';obtain⟨h1,h2⟩:=aI.1 he;obtain rfl:=ay.1 h2;obtain⟨b,off,vs,rfl,hr,hR⟩:=mG hx;obtain⟨z,Ma,Ka⟩:=sI (P:=P) (w:=w) h1 (b:=b) (off:=off) hR.size (λj x hj=>by
   obtain⟨b',off',e,hh⟩:=hr j x hj;simp only[az,Addr.mk.injEq,ea]at e;obtain⟨rfl,rfl⟩:=e;exact hh.1)
  exact⟨_,z,rfl,Ma,VS.of (by simpa only[V]using hR) Ka⟩
 ·rename_i t x';obtain⟨u,e,he⟩:=lI.1 he;subst e;have hx:=J1 hx;obtain⟨h1,h2⟩:=aI.1 he;obtain rfl:=ay.1 h2;obtain⟨b,off,vs,rfl,hr,hR⟩:=mG hx;obtain⟨z,Ma,Ka⟩:=sI (P:=P) (w:=w) h1 (b:=b) (off:=off) hR.size (λj x hj=>by
   obtain⟨b',off',e,hh⟩:=hr j x hj;simp only[az,Addr.mk.injEq,ea]at e;obtain⟨rfl,rfl⟩:=e;exact hh.1)
  exact⟨_,z,rfl,Ma,VS.of (by simpa only[V]using hR) Ka⟩
 ·rename_i t x';obtain⟨u,e,he⟩:=lI.1 he;subst e;have hx:=Kf hx;obtain⟨h1,h2⟩:=aI.1 he;obtain rfl:=ay.1 h2;obtain⟨b,off,vs,rfl,hr,hR⟩:=mG hx;obtain⟨z,Ma,Ka⟩:=sI (P:=P) (w:=w) h1 (b:=b) (off:=off) hR.size (λj x hj=>by
   obtain⟨b',off',e,hh⟩:=hr j x hj;simp only[az,Addr.mk.injEq,ea]at e;obtain⟨rfl,rfl⟩:=e;exact hh.1)
  exact⟨_,z,rfl,Ma,VS.of (by simpa only[V]using hR) Ka⟩
 ·simp only[av]at he
theorem aoj(h:Inv C g β s a w){T:TypeId}{x:bI}(ho:o.op= .load T x){v:aF}(he:(Kp P s T (s.ev x)).eval=au v):fG P o a w (gW C (s.put o.dst v)):=by obtain⟨ad,z,hy,hr,hv⟩:=Sw h (h.ev x) he;refine h.value hv (dU (f:=Instr.loadAt T (a.eval x)) (by simp only[execOp,ho]) ?_);simp[Instr.loadAt,Instr.sureAddr,hy,hr]
theorem Trans.setRow(w:bV){b:Nat}{i:Id}(hg:g b= .own (.id i) 0)(cur:Array Value):Trans w (w.setRow b cur) g g:=by
 refine⟨by simp,by simp,by simp,by simp,λb' hb=> ?_⟩;by_cases he:b'=b
 ·subst he;rw[hg];exact⟨.inr ⟨i,0,rfl,aC _⟩,λ_ _ hh=>aq⟩
 ·rw[setRow_other w b b' cur he];cases P4:g b' with
  |free=>exact⟨rfl,rfl⟩
  |own o' k=>cases o' with
   |ez=>exact⟨rfl,rfl⟩
   |id i'=>exact⟨.inr ⟨i',k,rfl,aC _⟩,λoff v _ hv=>by rw[cell_setRow_other w b cur _ he];exact hv⟩
theorem Inv.apart(h:Inv C g β s a w){id:Id}{k:Nat}{b:Nat}(hg:g b= .own (.id id) k){i:Id}{ver:Nat}{fr:Bool}{c:aF}{pl:Pl}(hi:i≠id)(hs:s.bS i=au (.obj ver fr c))(hp:β i=au pl):pl.b≠b:=by
 intro hb;have hl:(∃k,g pl.b= .own (.id i) k)\/(fr=aO/\g pl.b= .free):=((h.bM i ver fr c hs).label (pl:=pl) hp).2;rw[hb,hg]at hl;rcases hl with⟨k',hk⟩ | ⟨_,hk⟩
 ·simp only[lA.own.injEq,Own.id.injEq]at hk;exact hi hk.1.symm
 ·cases hk
theorem afX(h:Inv C g β s a w){T:TypeId}{x v:aF}{y z:Value}(hx:VS (s.env w g β) x y)(hz:VS (s.env w g β) v z){s':AS}(he:(Ft P s T x v).eval=au s'):
  ∃ad w',y= .pointer (au ad)/\(storeVar T ad z).run P w= .ok () w'/\∃g' β',Inv C g' β' s' a w':=by
 unfold Ft at he;split at he
 ·rename_i id ver p n;cases j6:s.obj id with
  |none=>rw[j6]at he;simp only[av]at he
  |some r=>
   obtain⟨v0,fr,c⟩:=r;rw[j6]at he;obtain⟨h1,h2⟩:=aI.1 he;obtain⟨⟨n',o'⟩,h3,h4⟩:=aw.1 h2;obtain⟨h5,h6⟩:=aI.1 h4;obtain⟨h7,h8⟩:=bQ.1 h6;obtain⟨c',h9,aEm⟩:=aw.1 h8;obtain rfl:=ay.1 aEm;simp only[aR]at h7;simp only[al,dw,bP]at h1;obtain⟨⟨aDL,aBX⟩,R2⟩:=h1;subst aDL h7 aBX;have cI:=dO j6;obtain⟨ad,rfl,hb,hc⟩:=sG hx;obtain⟨pl,hp,rfl⟩:=hc ⟨aV,c,cI⟩;have hp:β id=au pl:=hp;obtain⟨ahU,_⟩:=qH R2;obtain⟨cs,hV,hO⟩:=hz.eJ ahU;have hOb:=h.bM id v0 aV c cI;obtain⟨hcel',_⟩:=qH h5;have ayi:c.ix=aV\/c.ix=aO:=by cases c.ix <;> simp
   rcases ayi with hn | hn
   ·obtain⟨pl',cur,e,hp',hh,hg,hk,hVc⟩:=hOb.box hn;have hp':β id=au pl':=hp';rw[hp]at hp';obtain rfl:pl=pl':=by simpa using hp'
    have hg:g pl.b= .own (.id id) 0:=hg;have hh:w.heap[pl.b]? =au (.cells cur e (0,0)):=hh
    have hN:=Qo hk;have hNl:(cur.toList.take (c.vc cur.size)).length=c.vc cur.size:=by rw[bZ,cO];omega
    obtain⟨u1,u2,u3⟩:=pI p c.strip (cur.toList.take (c.vc cur.size)) n' o' v c' cs (VO.of hVc) h3 hV h9;have u4:=u2.to (u3.sE hVc.sE);have re:c'.size=c.strip.size:=by have e1:=u4.size;have e2:=hVc.size;rw[jH u1]at e1;omega
    rw[hNl]at u1;have adU:(dx cur.toList n' cs).length=cur.toList.length:=jH (by have e1:cur.toList.length=cur.size:=cO;omega);have aHo:(dx cur.toList n' cs).take (c.vc cur.size)=dx (cur.toList.take (c.vc cur.size)) n' cs:=by
     conv=>lhs;rw[<-da (c.vc cur.size) cur.toList]
     rw[Ag (by rw[hNl];exact u1),gC (by rw[jH (by rw[hNl];exact u1),hNl];exact aC _)];exact bH (by rw[jH (by rw[hNl];exact u1),hNl];exact aC _)
    have pb:=Dj (P:=P) (w:=w) R2 hV hO (b:=pl.b) (off:=n') hh (by have e1:cur.toList.length=cur.size:=cO;have e2:cs.toArray.size=cs.length:=hZ;omega);have ht:=Trans.setRow w hg (dx cur.toList n' cs).toArray;have hle:cP (s.env w g β) ((s.aY id (.obj v0 aV (c.wrap c'))).env (w.setRow pl.b (dx cur.toList n' cs).toArray) g β):=cP.aY cI (aC _) ht (λ_ _=>rfl) (λ_=>rfl);refine⟨_,_,rfl,pb,g,β,h.step (dh _ _ _) ht hle (iR.aY h.bM (by rw[cI];simp) hle (λ_ _=>rfl) (λi ver fr c pl2 hi R3 P5=>⟨setRow_other w pl.b pl2.b _ (h.apart hg hi R3 P5),rfl⟩) ?_ (pg cI λk v1 l e=>by rw[e]at hn;simp[aF.ix]at hn))⟩;exact Mb.obj ⟨pl,_,e,hp,setRow_heap w pl.b cur _ e (0,0) hh,hg,by rw[hZ,adU,cO];exact HA hk u4.yR re,by
     rw[IQ c u4.yR,hZ,adU,cO,Mq u4.yR re,show(dx cur.toList n' cs).toArray.toList=dx cur.toList n' cs from rfl,aHo];exact V.mono hle u4⟩
   ·cases c <;> first | (simp[aF.ix]at hn;done) | skip
    rotate_left
    ·have h3:(loc (.mp _ _ _) p).eval=_:=h3;obtain⟨_,rfl⟩:=aap h3;simp[aF.eJ]at hcel'
    ·have h3:(loc (.qa _ _ _ _ _ _) p).eval=_:=h3;obtain⟨_,rfl⟩:=QB h3;simp[aF.eJ]at hcel'
    ·have h3:(loc (.uN _ _ _) p).eval=_:=h3;obtain⟨_,rfl⟩:=QC h3;simp[aF.eJ]at hcel'
    rename_i e t l;obtain⟨agz,hOb⟩:=hOb;have hOb:(match β id with
     |none=>l=[]
     |some pl=>∃cur k,w.heap[pl.b]? =au (.cells cur e (0,0))/\cur.size=pl.cap*t.size/\l.length<=pl.cap/\pl.cap<=maxLen/\g pl.b= .own (.id id) k/\
       k<=l.length*t.size/\(aV=aV->k=0)/\bq (cG (s.env w g β) t) (cur.toList.take (l.length*t.size)) l):=hOb
    rw[hp]at hOb;obtain⟨cur,k,q1,q2,q3,q4,q5,q6,q7,q8⟩:=hOb;have hk:=q7 rfl;subst hk;have hlen:=bq.length (λc x hx=>cG.size hx) q8;have re:l.length*t.size<=cur.size:=by rw[q2];exact cT _ q3
    obtain⟨u1,u2,u3⟩:=pI (E:=s.env w g β) p (.vec e t l) _ n' o' v c' cs q8 h3 hV h9;rw[hlen]at u1;have pb:=Dj (P:=P) (w:=w) R2 hV hO (b:=pl.b) (off:=n') q1 aq;cases c' <;> first | (exact u3.elim) | skip
    rename_i e' t' l';obtain⟨rfl,rfl,hl'⟩:=u3;have ht:=Trans.setRow w q5 (dx cur.toList n' cs).toArray;have hle:cP (s.env w g β) ((s.aY id (.obj v0 aV (.vec e' t' l'))).env (w.setRow pl.b (dx cur.toList n' cs).toArray) g β):=cP.aY cI (aC _) ht (λ_ _=>rfl) (λ_=>rfl);refine⟨_,_,rfl,pb,g,β,h.step (dh _ _ _) ht hle (iR.aY h.bM (by rw[cI];simp) hle (λ_ _=>rfl) (λi ver fr c pl2 hi R3 P5=>⟨setRow_other w pl.b pl2.b _ (h.apart q5 hi R3 P5),rfl⟩) ?_ (pg cI λk v1 l e=>by cases e))⟩;refine⟨agz,?_⟩;show(match β id with
     |none=>l'=[]
     |some pl=>_)
    rw[hp];have adU:(dx cur.toList n' cs).length=cur.toList.length:=jH (by simp;omega);refine⟨_,0,setRow_heap w pl.b cur _ e' (0,0) q1,by rw[hZ,adU];simpa using q2,aq,q4,q5,aq,λ_=>rfl,?_⟩;have e2:(dx cur.toList n' cs).take (l'.length*t'.size)=dx (cur.toList.take (l.length*t'.size)) n' cs:=by
     rw[hl']
     conv=>lhs;rw[<-da (l.length*t'.size) cur.toList]
     rw[Ag (by rw[hlen];exact u1),gC (by rw[jH (by rw[hlen];exact u1),hlen];exact aC _)];exact bH (by rw[jH (by rw[hlen];exact u1),hlen];exact aC _)
    rw[show(dx cur.toList n' cs).toArray.toList=dx cur.toList n' cs from rfl,e2];exact bq.mono (λ_ _ hx=>hx.mono hle.mem) u2
 ·simp only[av]at he
theorem ajO(h:Inv C g β s a w){T:TypeId}{x v:bI}(ho:o.op= .store T x v){s':AS}(he:(Ft P s T (s.ev x) (s.ev v)).eval=au s'):fG P o a w (gW C (s'.put o.dst .undef)):=by obtain⟨ad,w',hy,hr,g',β',hi⟩:=afX h (h.ev x) (h.ev v) he;refine .inr (.inl ⟨w',Xs (f:=Instr.storeAt T (a.eval x) (a.eval v)) (by simp only[execOp,ho]) ?_,g',β',hi.put o.dst VS.undef⟩);simp[Instr.storeAt,Instr.sureAddr,hy,hr]
end
end Go.Ab
namespace Go.Ab
section
variable {P:aL} {C:Ctx} {g:Nat->lA} {β:Id->Option Pl} {s:AS} {a:Act} {w:bV} {o:Oper}
theorem X1(h:Inv C g β s a w){x:bI}(ho:o.op= .move x\/o.op= .assign x):fG P o a w (gW C (s.put o.dst (s.ev x))):=by
 refine h.value (h.ev x) ?_
 rcases ho with ho | ho <;> simp[execOp,ho]
theorem ao4(h:Inv C g β s a w){c x y:bI}(ho:o.op= .pick c x y){v:aF}(he:(alN (s.ev c) (s.ev x) (s.ev y)).eval=au v):fG P o a w (gW C (s.put o.dst v)):=by
 have hc:=h.ev c;have hx:=h.ev x;have hy:=h.ev y;unfold alN at he;split at he
 ·rename_i b hb;rw[hb]at hc;have aI3:=Qm hc;have hr:(execOp a.eval o).run P w= .ok (.value (if b then a.eval x else a.eval y)) w:=by simp[execOp,ho,aI3,asBool]
  split at he
  ·rename_i bx by' aGL aIZ;obtain rfl:=ay.1 he;rw[aGL]at hx;rw[aIZ]at hy;refine h.value ?_ hr
   cases b
   ·simpa using hy
   ·simpa using hx
  ·cases b with
   |true=>
    simp only[Out.eval,az]at he;subst he;exact h.value (by simpa using hx) hr
   |false=>
    simp only[Out.eval,az]at he;subst he;exact h.value (by simpa using hy) hr
 ·simp only[av]at he
theorem VZ(h:Inv C g β s a w){x:bI}(ho:o.op= .nilCheck x){s':AS}(he:(match s.ev x with
  | .ptr id v p n=>Out.ok (s.put o.dst (.ptr id v p n))
  | .eG t y=> .ok (s.put o.dst (.eG t y))
  | .d (.nL t) y=> .get (y:Option t.den) λy=> .ok (s.put o.dst (.eG t y))
  | .d (.gR t) y=> .get (y:Option (Nat×t.den)) λy=> .ok (s.put o.dst (.eG t y.2))
  | .fn f c=> .ok (s.put o.dst (.fn f c))
  |_=> .fail).eval=au s'):fG P o a w (gW C s'):=by
 have hx:=h.ev x;split at he
 ·rename_i id v p n hv;obtain rfl:=ay.1 he;rw[hv]at hx;obtain⟨ad,hy,_⟩:=sG hx;exact h.value hx (by simp[execOp,ho,hy])
 ·rename_i t y hv;obtain rfl:=ay.1 he;rw[hv]at hx;obtain⟨b,off,vs,hy,_⟩:=mG hx;exact h.value hx (by simp[execOp,ho,hy])
 ·rename_i t y hv;obtain⟨z,e,he⟩:=lI.1 he;subst e;obtain rfl:=ay.1 he;rw[hv]at hx;have hx:=J1 hx;obtain⟨b,off,vs,hy,_⟩:=mG hx;exact h.value hx (by simp[execOp,ho,hy])
 ·rename_i t y hv;obtain⟨z,e,he⟩:=lI.1 he;subst e;obtain rfl:=ay.1 he;rw[hv]at hx;have hx:=Kf hx;obtain⟨b,off,vs,hy,_⟩:=mG hx;exact h.value hx (by simp[execOp,ho,hy])
 ·rename_i f c hv;obtain rfl:=ay.1 he;rw[hv]at hx;obtain⟨cs,hV,hO⟩:=hx.eJ rfl;simp only[V]at hV;obtain⟨vs,e,hc⟩:=hV;have hO':cs=[a.eval x]:=hO;rw[e]at hO';have hy:a.eval x= .func (.func f) #[] vs.toArray:=by simpa using hO'.symm
  refine h.value (v:= .fn f c) ⟨cs,by simp only[V];exact⟨vs,e,hc⟩,hO⟩ (by simp[execOp,ho,hy])
 ·simp only[av]at he
theorem aeb{op:BinOp}{k k':ki}{x y:Int}{v:aF}(he:(atq op k x k' y).eval=au v)(T:TypeId)(E:Env):
  ∃z,(binOp op T (.int k x) (.int k' y)).run P w= .ok z w/\VS E v z:=by
 unfold atq at he;have same:∀(hk:decide (k=k')=aO),k=k':=λhk=>by simpa using hk
 cases op with
 |shl=>
  obtain⟨h1,h2⟩:=bQ.1 he;obtain rfl:=ay.1 h2;have h1:¬y < 0:=by simpa using h1
  exact⟨_,by simp[binOp,Op.shift,h1],kS _ _⟩
 |shr=>
  obtain⟨h1,h2⟩:=bQ.1 he;obtain rfl:=ay.1 h2;have h1:¬y < 0:=by simpa using h1
  exact⟨_,by simp[binOp,Op.shift,h1],kS _ _⟩
 |quo=>
  obtain⟨h1,h2⟩:=aI.1 he;obtain rfl:=same h1;obtain⟨h3,h4⟩:=bQ.1 h2;obtain rfl:=ay.1 h4;have h3:y≠0:=by simpa using h3
  exact⟨_,by simp[binOp,Op.intDiv,h3],kS _ _⟩
 |rem=>
  obtain⟨h1,h2⟩:=aI.1 he;obtain rfl:=same h1;obtain⟨h3,h4⟩:=bQ.1 h2;obtain rfl:=ay.1 h4;have h3:y≠0:=by simpa using h3
  exact⟨_,by simp[binOp,Op.intDiv,h3],kS _ _⟩
 |add | sub | mul=>
  obtain⟨h1,h2⟩:=aI.1 he;obtain rfl:=same h1;obtain rfl:=ay.1 h2;exact⟨_,by simp[binOp,Op.intArith],kS _ _⟩
 |and | or | xor | andNot=>
  obtain⟨h1,h2⟩:=aI.1 he;obtain rfl:=same h1;obtain rfl:=ay.1 h2;refine⟨_,?_,kS _ _⟩;unfold binOp Op.intBits;simp[di]
 |eql | neq | lss | leq | gtr | geq=>
  obtain⟨h1,h2⟩:=aI.1 he;obtain rfl:=same h1;obtain rfl:=ay.1 h2;refine⟨_,?_,ua _⟩;simp[binOp,Op.intCmp]
theorem afY{op:BinOp}{x y:ByteArray}{v:aF}(he:(awa op x y).eval=au v)(T:TypeId)(E:Env):
  ∃z,(binOp op T (.string x) (.string y)).run P w= .ok z w/\VS E v z:=by
 unfold awa at he;cases op <;> simp only[av]at he
 case add=>
  obtain⟨h1,h2⟩:=bQ.1 he;obtain rfl:=ay.1 h2;have h1:¬((x.size+y.size:Nat):Int) > IntKind.i64.max:=by simpa using h1
  refine⟨.string (x++y),?_,Y2 _⟩;show(Op.stringOp .add x y).run P w=_;unfold Op.stringOp;simp only[h1,cK];rfl
 all_goals
  obtain rfl:=ay.1 he;exact⟨_,by simp[binOp,Op.stringOp],ua _⟩
theorem nc{op:BinOp}{T:TypeId}{x y:bI}{u v:Value}(h1:u≠ .nilIface)(h2:qJ u=aV):(eqGuard op T x y u v).run P w= .ok () w:=by
 unfold eqGuard;cases op <;> simp
 all_goals (cases u <;> simp_all [qJ])
theorem xj{T:TypeId}{b:Bool}(h:Ic P T b=aO):∃i,P.info? T=au i/\∀w,(isAgg T).run P w= .ok b w:=by
 unfold Ic at h;cases hu:P.underlying T with
 |none=>rw[hu]at h;cases h
 |some d=>
  obtain⟨i,hi⟩:=ale hu;refine⟨i,hi,λw=> ?_⟩;rw[hu]at h;unfold isAgg;rw[cg,run_underlying hu w];cases d <;> simp at h <;> simp[h]
theorem vP{T:TypeId}{b:Bool}(h:Ic P T b=aO){cs:List Value}{off n:Nat}(hn:P.cellsOf T=n)(hb:b=aV->n=1)(hl:off+n<=cs.length):
  ∃y,(part T cs.toArray off).run P w= .ok y w/\fT b ((cs.drop off).take n) y:=by
 obtain⟨i,hi,adM⟩:=xj h;rw[mr hi]at hn;unfold part;rw[cg,adM w];simp only[bE];cases b with
 |true=>
  refine⟨.agg ((cs.drop off).take n).toArray,?_,rfl⟩;simp only[cZ,cg,run_sizeOf hi,bE,hn,dK];simp[List.extract_eq_take_drop]
 |false=>
  have h1:=hb rfl;subst h1;have iJ:off < cs.length:=aq;refine⟨cs[off],?_,?_⟩
  ·simp[iJ]
  ·show(cs.drop off).take 1=[cs[off]];rw[aA iJ,pL,fb]
theorem vS{t:Ty}(h:t.agg=aV):t.size=1:=by cases t <;> first | rfl | (simp[Ty.agg]at h)
theorem Sr{α:Type}(f:α->α->Bool)(x y:α)(xs ys:List α):mB f (x::xs) (y::ys)=(f x y && mB f xs ys):=rfl
theorem Si{E:Env}(hE:E.w=w){T U:TypeId}(hT:P.underlying T=au (.pointer U))(hU:azu P U=aO){t:Ty}(hn:t.alx=aO){x y:(Ty.gR t).den}{cx cy:List Value}(hx:cG E (.gR t) cx x)(hy:cG E (.gR t) cy y){u v:Value}(hu:cx=[u])(hv:cy=[v]):
  (∃a,u= .pointer a)/\(∃b,v= .pointer b)/\∀d,(c7 (d+1) T u v).run P w= .ok ((Ty.gR t).beq x y) w:=by
 unfold azu at hU;split at hU <;> try (cases hU;done)
 rename_i i hi;have re:i.size≠0:=by simpa using hU
 subst hu hv;have yes:u=v->(Ty.gR t).beq x y=aO:=λe=>by subst e;exact @eC _ ((Ty.gR t).aqR x y) (cG.uniq (t:= .gR t) (by simpa only[Ty.alx]using hn) hx hy)
 have no:x≠y->(Ty.gR t).beq x y=aV:=λe=> @eY _ ((Ty.gR t).aqR x y) e
 simp only[cG]at hx hy;cases anX:(x:Option (Nat×t.den)) with
 |none=>
  have e1:=hx.1 anX;simp only[cD,ea]at e1;subst e1;cases ayj:(y:Option (Nat×t.den)) with
  |none=>
   have e2:=hy.1 ayj;simp only[cD,ea]at e2;subst e2;exact⟨⟨_,rfl⟩,⟨_,rfl⟩,λd=>by rw[anX,ayj]at yes;rw[yes rfl];simp[c7,run_underlying hT]⟩
  |some b=>
   obtain⟨cb,Tb,vb,e2,hb,_⟩:=hy.2 b ayj;simp only[cD,ea]at e2;subst e2;exact⟨⟨_,rfl⟩,⟨_,rfl⟩,λd=>by rw[anX,ayj]at no;rw[no (λe=>by cases e)];simp[c7,run_underlying hT]⟩
 |some a=>
  obtain⟨ca,Ta,va,e1,ha,_⟩:=hx.2 a anX;simp only[cD,ea]at e1;subst e1;cases ayj:(y:Option (Nat×t.den)) with
  |none=>
   have e2:=hy.1 ayj;simp only[cD,ea]at e2;subst e2;exact⟨⟨_,rfl⟩,⟨_,rfl⟩,λd=>by rw[anX,ayj]at no;rw[no (λe=>by cases e)];simp[c7,run_underlying hT]⟩
  |some b=>
   obtain⟨cb,Tb,vb,e2,hb,_⟩:=hy.2 b ayj;simp only[cD,ea]at e2;subst e2;refine⟨⟨_,rfl⟩,⟨_,rfl⟩,λd=> ?_⟩;rw[anX,ayj]at yes no;by_cases anP:a.1=b.1
   ·rw[yes (by rw[anP])];simp[c7,run_underlying hT,run_sizeOf hi,re,anP,run_sameAddr_same]
   ·rw[no (λe=>anP (bK Prod.fst (aQ e)))];have hd:=run_sameAddr_other (P:=P) w (a:=⟨a.1,0,aH⟩) (b:=⟨b.1,0,aH⟩) (by intro e;exact anP (bK Addr.block e)) (hE▸ha.2) (hE▸hb.2);simp[c7,run_underlying hT,run_sizeOf hi,re,hd]
theorem uo(E:Env)(hE:E.w=w):∀(n:Nat) (T:TypeId) (t:Ty),ra P n T t=aO->∀(d:Nat),n<=d->∀(cx cy:List Value) (x y:t.den) (u v:Value),cG E t cx x->cG E t cy y->fT t.agg cx u->fT t.agg cy v->
  (c7 d T u v).run P w= .ok (t.beq x y) w
 | 0,T,t,h,_,_,_,_,_,_,_,_,_,_,_,_=>by simp[ra]at h
 |n+1,T,t,h,0,hd,_,_,_,_,_,_,_,_,_,_=>aq
 |n+1,T,t,h,d+1,hd,cx,cy,x,y,u,v,hx,hy,hu,hv=>by
  simp only[ra]at h;split at h
  ·rename_i k k' hT;simp only[cG]at hx hy;have e1:cx=[u]:=hu;have e2:cy=[v]:=hv;rw[hx]at e1;rw[hy]at e2;simp only[cD,ea]at e1 e2;subst e1 e2;rw[run_equalIn_int w d T _ _ _ _ hT];rfl
  ·rename_i hT;simp only[cG]at hx hy;have e1:cx=[u]:=hu;have e2:cy=[v]:=hv;rw[hx]at e1;rw[hy]at e2;simp only[cD,ea]at e1 e2;subst e1 e2;rw[run_equalIn_bool' w d T _ _ hT];rfl
  ·rename_i hT;simp only[cG]at hx hy;have e1:cx=[u]:=hu;have e2:cy=[v]:=hv;rw[hx]at e1;rw[hy]at e2;simp only[cD,ea]at e1 e2;subst e1 e2;rw[run_equalIn_string w d T _ _ hT];rfl
  ·rename_i U t' hT;simp only[al]at h;exact(Si hE hT h.1 h.2 hx hy hu hv).2.2 d
  ·rename_i m e m' t' hT;simp only[al,dw]at h;obtain⟨⟨⟨⟨rfl,aCo⟩,re⟩,I7⟩,uq⟩:=h;simp only[cG]at hx hy;obtain⟨aG5,aGQ⟩:=hx;obtain⟨aJn,aI4⟩:=hy;have e1:u= .agg cx.toArray:=hu;have e2:v= .agg cy.toArray:=hv;subst e1 e2;obtain⟨i,hi,adM⟩:=xj I7;have hsz':=re;rw[mr hi]at hsz';simp only[c7,cg,run_underlying hT,bE,run_sizeOf hi,hsz'];simp only[Std.Legacy.Range.forIn_eq_forIn_range'];have hm:([:m]:Std.Legacy.Range).size=m:=by simp[Std.Legacy.Range.size]
   rw[hm];have agz:∀c z,cG E t' c z->c.length=t'.size:=λc z hz=>hz.size
   have bx:t'.agg=aV->t'.size=1:=vS
   have key:∀(k:Nat) (x y:List t'.den) (j:Nat),x.length=k->y.length=k->bq (cG E t') (cx.drop (j*t'.size)) x->bq (cG E t') (cy.drop (j*t'.size)) y->
     (forIn (List.range' j k) ((aH,()):Option Bool×Unit) λi __s=>(do
      let __do_lift <-part e cx.toArray (i*t'.size)
      let __do_lift_1 <-part e cy.toArray (i*t'.size)
      let __do_lift <-c7 d e __do_lift __do_lift_1
      if(!__do_lift)=aO then pure (ForInStep.done (au aV,())) else pure (ForInStep.yield (aH,())):Sem (ForInStep (Option Bool×Unit)))).run P w= .ok (if mB t'.beq x y then aH else au aV,()) w:=by
    intro k
    induction k with
    |zero=>
     intro x y j hx hy _ _;rw[List.length_eq_zero_iff.1 hx,List.length_eq_zero_iff.1 hy];rfl
    |succ k ih=>
     intro x y j hx hy hcx' hcy';cases x with
     |nil=>simp at hx
     |cons x0 xs=>
      cases y with
      |nil=>simp at hy
      |cons y0 ys=>
       have gx:=bq.get agz hcx' 0 (by simp);have gy:=bq.get agz hcy' 0 (by simp);simp only[mj,aN,List.getElem_cons_zero]at gx gy;have lenx:((cx.drop (j*t'.size)).take t'.size).length=t'.size:=gx.size;have leny:((cy.drop (j*t'.size)).take t'.size).length=t'.size:=gy.size;have Ma:t'.size≠0:=by simpa using aCo
       have aG1:j*t'.size+t'.size<=cx.length:=by simp only[bZ,cv]at lenx;omega
       have aJh:j*t'.size+t'.size<=cy.length:=by simp only[bZ,cv]at leny;omega
       obtain⟨ux,h1,o1⟩:=vP (w:=w) I7 re bx (cs:=cx) (off:=j*t'.size) aG1;obtain⟨uy,h2,o2⟩:=vP (w:=w) I7 re bx (cs:=cy) (off:=j*t'.size) aJh;have h3:=uo E hE n e t' uq d aq _ _ x0 y0 ux uy gx gy o1 o2;have nx:bq (cG E t') (cx.drop ((j+1)*t'.size)) xs:=by have:=bq.drop agz 1 hcx';rw[fU]at this;simpa[eH]using this
       have ny:bq (cG E t') (cy.drop ((j+1)*t'.size)) ys:=by have:=bq.drop agz 1 hcy';rw[fU]at this;simpa[eH]using this
       have:=ih xs ys (j+1) (by simpa using hx) (by simpa using hy) nx ny;rw[List.range'_succ,List.forIn_cons];simp only[cg,h1,h2,h3,bE,Sr];rcases iV (t'.beq x0 y0) with hb | hb
       ·simp only[hb,bR,cd,cK,dK,bE,dD];exact this
       ·simp only[hb,dA,cZ,dK,bE,jR,cd,cK]
   have:=key m x y 0 aG5 aJn (by simpa using aGQ) (by simpa using aI4);rw[this];show _=Result.ok (mB t'.beq x y) w;cases mB t'.beq x y <;> rfl
  ·rename_i t0 _ _ fs hT;simp only[al,bP]at h;obtain⟨nw,aBY⟩:=h;have hF:P.fieldsOf T=fs:=by simp[Program.fieldsOf,hT]
   have hT':P.underlying T=au (.struct (P.fieldsOf T)):=by rw[hF];exact hT
   have key:∀(fl:List Field) (t:Ty) (off:Nat),HY P (ra P n) fl t off=aO->∀(x y:t.den),cG E t (cx.drop off) x->cG E t (cy.drop off) y->
     (Op.eqFields d cx.toArray cy.toArray fl).run P w= .ok (t.beq x y) w:=by
    intro fl
    induction fl with
    |nil=>
     intro t off hc x y _ _;cases t <;> first | (simp[HY]at hc;done) | rfl
    |cons f fl ih=>
     intro t off hc x y hx hy;cases t <;> first | (simp[HY]at hc;done) | skip
     rename_i ta tb;simp only[HY,al,bP,dw,gz]at hc;obtain⟨⟨⟨⟨⟨⟨aHb,ayb⟩,hz⟩,re⟩,I7⟩,uq⟩,ate⟩:=hc;simp only[cG]at hx hy;obtain⟨xa,xb,ex,aFc,aHw⟩:=hx;obtain⟨ya,yb,ey,aIF,aJM⟩:=hy;have bx:ta.agg=aV->ta.size=1:=vS;have lx:xa.length=ta.size:=aFc.size;have ly:ya.length=ta.size:=aIF.size;have split:∀(cs xa xb:List Value),cs.drop off=xa++xb->xa.length=ta.size->(cs.drop off).take ta.size=xa/\cs.drop (off+ta.size)=xb/\off+ta.size<=cs.length:=by intro cs xa xb e l;refine⟨by rw[e];exact ke l,by rw[<-fU,e];exact ka l,?_⟩;have:=bK ae e;simp only[cv,ak]at this;omega
     obtain⟨sx1,sx2,sx3⟩:=split cx xa xb ex lx;obtain⟨sy1,sy2,sy3⟩:=split cy ya yb ey ly;obtain⟨ux,h1,o1⟩:=vP (w:=w) I7 re bx (cs:=cx) (off:=off) sx3;obtain⟨uy,h2,o2⟩:=vP (w:=w) I7 re bx (cs:=cy) (off:=off) sy3;rw[sx1]at o1;rw[sy1]at o2;have h3:=uo E hE n f.type ta uq d aq _ _ x.1 y.1 ux uy aFc aIF o1 o2;have h4:=ih tb (off+ta.size) ate x.2 y.2 (by rw[sx2];exact aHw) (by rw[sy2];exact aJM);simp only[Op.eqFields,ne_eq,aHb,not_false_eq_true,cZ,cg,ayb,h1,h2,h3,bE];show _=Result.ok (ta.beq x.1 y.1 && tb.beq x.2 y.2) w;rcases iV (ta.beq x.1 y.1) with hb | hb
     ·simp only[hb,bR,cd,cK,dD];exact h4
     ·simp[hb]
   have I7:t0.agg=aO:=by cases hl:fs.toList <;> rw[hl]at aBY <;> cases t0 <;> first | rfl | (simp[HY]at aBY;done)
   rw[I7]at hu hv;have e1:u= .agg cx.toArray:=hu;have e2:v= .agg cy.toArray:=hv;subst e1 e2;rw[run_equalIn_struct w d T _ _ hT' nw,hF];exact key fs.toList t0 0 aBY x y (by simpa using hx) (by simpa using hy)
  ·cases h
end
end Go.Ab
namespace Go.Ab
section
variable {P:aL} {C:Ctx} {g:Nat->lA} {β:Id->Option Pl} {s:AS} {a:Act} {w:bV} {o:Oper}
theorem aur{E:Env}{v:aF}{y c:Value}(h:VS E v y)(hc:v.eJ=aO)(ha:v.agg=aV)(hV:∀cs,V E v cs->cs=[c]):y=c:=by have:=h.single hc ha;simpa using hV _ this
theorem zW{E:Env}{y:Value}(h:VS E .jW y):y= .pointer aH:=aur h rfl rfl λcs hv=>by simpa only[V]using hv
theorem QF{E:Env}{y:Value}(h:VS E .vB y):y= .nilFunc:=aur h rfl rfl λcs hv=>by simpa only[V]using hv
theorem RN{E:Env}{f:fw}{c:aF}{y:Value}(h:VS E (.fn f c) y):∃vs,y= .func (.func f) #[] vs.toArray/\VC E c vs:=by have h1:=h.single rfl rfl;simp only[V]at h1;obtain⟨vs,e,hc⟩:=h1;exact⟨vs,by simpa using e,hc⟩
theorem ee{T:TypeId}{u v:Value}{b:Bool}(h:∀d,(c7 (d+1) T u v).run P w= .ok b w):(Op.equal T u v).run P w= .ok b w:=h 9999
theorem RL{T:TypeId}{x y:aF}{u v:Value}{E:Env}(hx:VS E x u)(hy:VS E y v){b:Bool}(he:(w9 P T x y).eval=au b)(hE:E.w=w):
  (Op.equal T u v).run P w= .ok b w/\u≠ .nilIface/\(qJ u=aV\/(qJ v=aO/\P.eqGuardType P.depth T=aV))/\
   (∀op,binOp op T u v=(match op with | .eql=>do pure (.bool (<-Op.equal T u v)) | .neq=>do pure (.bool (!(<-Op.equal T u v))) | _=>binOp op T u v)):=by
 unfold w9 at he;split at he
 ·rename_i t x' t' y';obtain⟨y'',h1,h2⟩:=aw.1 he;obtain⟨e,h1⟩:=jb (jd.1 h1);obtain rfl:t'=t:=Ty.gR.inj e;simp only at h1;subst h1;obtain⟨h3,h4⟩:=aI.1 h2;obtain rfl:=ay.1 h4;simp only[al]at h3;obtain⟨h1,hn⟩:=h3;unfold aFg at h1;split at h1 <;> try (cases h1;done)
  rename_i U hT;obtain⟨cx,hVx,hOx⟩:=hx.eJ rfl;obtain⟨cy,hVy,hOy⟩:=hy.eJ rfl;simp only[V]at hVx hVy;obtain⟨⟨_,rfl⟩,⟨_,rfl⟩,hr⟩:=Si hE hT h1 hn hVx hVy hOx hOy;exact⟨ee hr,by simp,.inl rfl,λop=>by cases op <;> rfl⟩
 ·rename_i t x' t' y' _;obtain⟨y'',h1,h2⟩:=aw.1 he;obtain⟨rfl,h1⟩:=jb (jd.1 h1);simp only at h1;subst h1;obtain⟨h3,h4⟩:=aI.1 h2;obtain rfl:=ay.1 h4;simp only[al,iu,bP,aR]at h3;obtain⟨h3,h5⟩:=h3;obtain⟨cx,hVx,hOx⟩:=hx.eJ rfl;obtain⟨cy,hVy,hOy⟩:=hy.eJ rfl;simp only[V]at hVx hVy;have hr:=uo (w:=w) E hE depth T t' h5 10000 eR cx cy x' y' u v hVx hVy hOx hOy;refine⟨hr,?_⟩;rcases h3 with⟨I7,aJb⟩ | rfl
  ·have hOx':fT t'.agg cx u:=hOx;have hOy':fT t'.agg cy v:=hOy;rw[I7]at hOx' hOy';have e1:u= .agg cx.toArray:=hOx';have e2:v= .agg cy.toArray:=hOy';subst e1 e2;exact⟨by simp,.inr ⟨rfl,aJb⟩,λop=>by cases op <;> rfl⟩
  ·simp only[cG]at hVx hVy;have e1:cx=[u]:=hOx;have e2:cy=[v]:=hOy;rw[hVx]at e1;rw[hVy]at e2;simp only[cD,ea]at e1 e2;subst e1 e2;exact⟨by simp,.inl rfl,λop=>by cases op <;> rfl⟩
 ·obtain⟨h1,h2⟩:=aI.1 he;obtain rfl:=ay.1 h2;rw[kH hx,kH hy];unfold w9.isSl at h1;split at h1 <;> try (cases h1;done)
  rename_i e hT;exact⟨ee λd=>by simp[c7,run_underlying hT],by simp,.inl rfl,λop=>by cases op <;> rfl⟩
 ·obtain⟨h1,h2⟩:=aI.1 he;obtain⟨h3,h4⟩:=bQ.1 h2;obtain rfl:=ay.1 h4;obtain⟨ad,cap,vs,rfl,_,hs,_⟩:=sK hx;rw[kH hy];have hs:=hs (by simpa using h3);obtain⟨ad',rfl⟩:=bD.1 hs;unfold w9.isSl at h1;split at h1 <;> try (cases h1;done)
  rename_i e hT;exact⟨ee λd=>by simp[c7,run_underlying hT],by simp,.inl rfl,λop=>by cases op <;> rfl⟩
 ·obtain⟨h1,h2⟩:=aI.1 he;obtain⟨h3,h4⟩:=bQ.1 h2;obtain rfl:=ay.1 h4;obtain⟨ad,cap,vs,rfl,_,hs,_⟩:=sK hy;rw[kH hx];have hs:=hs (by simpa using h3);obtain⟨ad',rfl⟩:=bD.1 hs;unfold w9.isSl at h1;split at h1 <;> try (cases h1;done)
  rename_i e hT;exact⟨ee λd=>by simp[c7,run_underlying hT],by simp,.inl rfl,λop=>by cases op <;> rfl⟩
 ·obtain⟨h1,h2⟩:=aI.1 he;obtain⟨h3,h4⟩:=bQ.1 h2;obtain rfl:=ay.1 h4;obtain⟨ad,cap,rfl,_,hs,_⟩:=qn hx;rw[kH hy];have hs:=hs (by simpa using h3);obtain⟨ad',rfl⟩:=bD.1 hs;unfold w9.isSl at h1;split at h1 <;> try (cases h1;done)
  rename_i e hT;exact⟨ee λd=>by simp[c7,run_underlying hT],by simp,.inl rfl,λop=>by cases op <;> rfl⟩
 ·obtain⟨h1,h2⟩:=aI.1 he;obtain⟨h3,h4⟩:=bQ.1 h2;obtain rfl:=ay.1 h4;obtain⟨ad,cap,rfl,_,hs,_⟩:=qn hy;rw[kH hx];have hs:=hs (by simpa using h3);obtain⟨ad',rfl⟩:=bD.1 hs;unfold w9.isSl at h1;split at h1 <;> try (cases h1;done)
  rename_i e hT;exact⟨ee λd=>by simp[c7,run_underlying hT],by simp,.inl rfl,λop=>by cases op <;> rfl⟩
 ·obtain⟨h1,h2⟩:=aI.1 he;obtain rfl:=ay.1 h2;rw[zW hx,zW hy];unfold w9.isPt at h1;split at h1 <;> try (cases h1;done)
  rename_i e hT;exact⟨ee λd=>by simp[c7,run_underlying hT],by simp,.inl rfl,λop=>by cases op <;> rfl⟩
 ·obtain⟨h1,h2⟩:=aI.1 he;obtain rfl:=ay.1 h2;obtain⟨ad,rfl,_⟩:=sG hx;rw[zW hy];unfold w9.isPt at h1;split at h1 <;> try (cases h1;done)
  rename_i e hT;exact⟨ee λd=>by simp[c7,run_underlying hT],by simp,.inl rfl,λop=>by cases op <;> rfl⟩
 ·obtain⟨h1,h2⟩:=aI.1 he;obtain rfl:=ay.1 h2;obtain⟨ad,rfl,_⟩:=sG hy;rw[zW hx];unfold w9.isPt at h1;split at h1 <;> try (cases h1;done)
  rename_i e hT;exact⟨ee λd=>by simp[c7,run_underlying hT],by simp,.inl rfl,λop=>by cases op <;> rfl⟩
 ·rename_i t q;obtain⟨h1,h2⟩:=aI.1 he;obtain rfl:=ay.1 h2;unfold w9.isPt at h1;split at h1 <;> try (cases h1;done)
  rename_i e hT;rw[zW hy];cases q with
  |none=>
   rw[XI hx];exact⟨ee λd=>by simp[c7,run_underlying hT],by simp,.inl rfl,λop=>by cases op <;> rfl⟩
  |some z=>
   obtain⟨b,off,vs,rfl,_⟩:=mG (J1 hx);exact⟨ee λd=>by simp[c7,run_underlying hT],by simp,.inl rfl,λop=>by cases op <;> rfl⟩
 ·rename_i t q;obtain⟨h1,h2⟩:=aI.1 he;obtain rfl:=ay.1 h2;unfold w9.isPt at h1;split at h1 <;> try (cases h1;done)
  rename_i e hT;rw[zW hx];cases q with
  |none=>
   rw[XI hy];exact⟨ee λd=>by simp[c7,run_underlying hT],by simp,.inl rfl,λop=>by cases op <;> rfl⟩
  |some z=>
   obtain⟨b,off,vs,rfl,_⟩:=mG (J1 hy);exact⟨ee λd=>by simp[c7,run_underlying hT],by simp,.inl rfl,λop=>by cases op <;> rfl⟩
 ·rename_i t q;obtain⟨h1,h2⟩:=aI.1 he;obtain rfl:=ay.1 h2;unfold w9.isPt at h1;split at h1 <;> try (cases h1;done)
  rename_i e hT;rw[zW hy];cases q with
  |none=>
   rw[XQ hx];exact⟨ee λd=>by simp[c7,run_underlying hT],by simp,.inl rfl,λop=>by cases op <;> rfl⟩
  |some z=>
   obtain⟨b,off,vs,rfl,_⟩:=mG (Kf hx);exact⟨ee λd=>by simp[c7,run_underlying hT],by simp,.inl rfl,λop=>by cases op <;> rfl⟩
 ·rename_i t q;obtain⟨h1,h2⟩:=aI.1 he;obtain rfl:=ay.1 h2;unfold w9.isPt at h1;split at h1 <;> try (cases h1;done)
  rename_i e hT;rw[zW hx];cases q with
  |none=>
   rw[XQ hy];exact⟨ee λd=>by simp[c7,run_underlying hT],by simp,.inl rfl,λop=>by cases op <;> rfl⟩
  |some z=>
   obtain⟨b,off,vs,rfl,_⟩:=mG (Kf hy);exact⟨ee λd=>by simp[c7,run_underlying hT],by simp,.inl rfl,λop=>by cases op <;> rfl⟩
 ·obtain⟨h1,h2⟩:=aI.1 he;obtain rfl:=ay.1 h2;rw[QF hx,QF hy];unfold w9.isFn at h1;split at h1 <;> try (cases h1;done)
  rename_i hT;exact⟨ee λd=>by simp[c7,run_underlying hT],by simp,.inl rfl,λop=>by cases op <;> rfl⟩
 ·obtain⟨h1,h2⟩:=aI.1 he;obtain rfl:=ay.1 h2;obtain⟨vs,rfl,_⟩:=RN hx;rw[QF hy];unfold w9.isFn at h1;split at h1 <;> try (cases h1;done)
  rename_i hT;exact⟨ee λd=>by simp[c7,run_underlying hT],by simp,.inl rfl,λop=>by cases op <;> rfl⟩
 ·obtain⟨h1,h2⟩:=aI.1 he;obtain rfl:=ay.1 h2;obtain⟨vs,rfl,_⟩:=RN hy;rw[QF hx];unfold w9.isFn at h1;split at h1 <;> try (cases h1;done)
  rename_i hT;exact⟨ee λd=>by simp[c7,run_underlying hT],by simp,.inl rfl,λop=>by cases op <;> rfl⟩
 ·simp only[av]at he
theorem adu{op:BinOp}{T:TypeId}{x y:bI}{u v:Value}(hu:qJ u=aO)(hv:qJ v=aO)(hm:P.eqGuardType P.depth T=aV):(eqGuard op T x y u v).run P w= .ok () w:=by
 cases u <;> first | (simp[qJ]at hu;done) | skip
 cases v <;> first | (simp[qJ]at hv;done) | skip
 exact run_eqGuard_agg w op T x y _ _ hm
theorem agZ(h:Inv C g β s a w){op:BinOp}{T U:TypeId}{x y:bI}(ho:o.op= .binOp op T x y U){v:aF}(he:(aBk P T op (s.ev x) (s.ev y)).eval=au v):fG P o a w (gW C (s.put o.dst v)):=by
 have hx:=h.ev x;have hy:=h.ev y;have fin:∀z,(binOp op T (a.eval x) (a.eval y)).run P w= .ok z w->(eqGuard op T x y (a.eval x) (a.eval y)).run P w= .ok () w->VS (s.env w g β) v z->fG P o a w (gW C (s.put o.dst v)):=by
  intro z h1 h2 h3;refine h.value h3 ?_
  simp[execOp,ho,h1,h2]
 unfold aBk at he;split at he
 ·rename_i k n k' m hn hm;rw[hn]at hx;rw[hm]at hy;have e1:=tz hx;have e2:=tz hy;obtain⟨z,h1,h2⟩:=aeb (P:=P) (w:=w) he T (s.env w g β);exact fin z (by rw[e1,e2];exact h1) (by rw[e1,e2];exact nc (by simp) rfl) h2
 ·rename_i n m hn hm;rw[hn]at hx;rw[hm]at hy;have e1:=Fu hx;have e2:=Fu hy;obtain⟨z,h1,h2⟩:=afY (P:=P) (w:=w) he T (s.env w g β);exact fin z (by rw[e1,e2];exact h1) (by rw[e1,e2];exact nc (by simp) rfl) h2
 ·have grd:(qJ (a.eval x)=aV\/(qJ (a.eval y)=aO/\P.eqGuardType P.depth T=aV))->a.eval x≠ .nilIface->(eqGuard op T x y (a.eval x) (a.eval y)).run P w= .ok () w:=by
   intro hh gV;rcases hh with hh | ⟨hh,hm⟩
   ·exact nc gV hh
   ·rcases iV (qJ (a.eval x)) with hx | hx
    ·exact adu hx hh hm
    ·exact nc gV hx
  split at he
  ·obtain⟨b,h1,h2⟩:=aw.1 he;obtain rfl:=ay.1 h2;obtain⟨q1,q2,q3,q4⟩:=RL (w:=w) hx hy h1 rfl;refine fin (.bool b) ?_ (grd q3 q2) (ua b)
   rw[q4 .eql];simp[q1]
  ·obtain⟨b,h1,h2⟩:=aw.1 he;obtain rfl:=ay.1 h2;obtain⟨q1,q2,q3,q4⟩:=RL (w:=w) hx hy h1 rfl;refine fin (.bool (!b)) ?_ (grd q3 q2) (ua (!b))
   rw[q4 .neq];simp[q1]
  ·simp only[av]at he
theorem aqE(h:Inv C g β s a w){op:UnOp}{T:TypeId}{x:bI}(ho:o.op= .unOp op T x){v:aF}(he:(aGk op (s.ev x)).eval=au v):fG P o a w (gW C (s.put o.dst v)):=by
 have hx:=h.ev x;unfold aGk at he;split at he
 ·rename_i b hb;rw[hb]at hx;obtain rfl:=ay.1 he;exact h.value (ua _) (by simp[execOp,ho,Qm hx,Op.unary])
 ·rename_i k n hb;rw[hb]at hx;obtain rfl:=ay.1 he;exact h.value (kS _ _) (by simp[execOp,ho,tz hx,Op.unary,Op.intArith])
 ·rename_i k n hb;rw[hb]at hx;obtain rfl:=ay.1 he;refine h.value (kS _ _) ?_
  simp only[execOp,ho,tz hx,Op.unary,Op.intBits];simp[di]
 ·simp only[av]at he
end
end Go.Ab
namespace Go.Ab
section
variable {P:aL} {C:Ctx} {g:Nat->lA} {β:Id->Option Pl} {s:AS} {a:Act} {w:bV} {o:Oper}
theorem yg{E:Env}{v:aF}{y:Value}(h:VS E v y){n:Int}(he:(asInt v).eval=au n):∃k,y= .int k n:=by
 unfold asInt at he;split at he
 ·rename_i k m;obtain rfl:=ay.1 he;exact⟨k,tz h⟩
 ·simp only[av]at he
theorem xZ{k:ki}{i:Int}{y:Nat}(code:BoundsCode)(h:0<=i/\i<=(y:Int)):(Instr.sliceBound (.int k i) y code).run P w= .ok i.toNat w:=run_sliceBound w k i y code h.1 h.2
theorem wN(h:Inv C g β s a w){n cap:Nat}(hn:n<=cap){lo hi:Option bI}{r:Nat×Nat}(he:(bounds s n lo hi).eval=au r)(isS:Bool){mx:Option Value}{cap':Nat}
  (hm:(mx=aH/\cap'=cap)\/∃k mv,hi.isSome=aO/\mx=au (.int k mv)/\(r.2:Int)<=mv/\mv<=n/\cap'=mv.toNat):
  (Instr.sliceBounds isS n cap (lo.map a.eval) (hi.map a.eval) mx).run P w= .ok (r.1,r.2,cap') w/\r.1<=r.2/\r.2<=n:=by
 unfold bounds at he;obtain⟨hh,h1,h2⟩:=aw.1 he;obtain⟨ll,h3,h4⟩:=aw.1 h2;obtain rfl:=ay.1 h4;have aAy:hh<=n/\∀y,hi.map a.eval=au y->∃k i,y= .int k i/\0<=i/\i<=(n:Int)/\hh=i.toNat:=by
  cases hi with
  |none=>
   simp only at h1;obtain rfl:=ay.1 h1;exact⟨aC _,λy hy=>by cases hy⟩
  |some x=>
   simp only at h1;obtain⟨i,q1,q2⟩:=aw.1 h1;obtain⟨q3,q4⟩:=bQ.1 q2;obtain rfl:=ay.1 q4;simp only[aR]at q3;obtain⟨k,hk⟩:=yg (h.ev x) q1;refine⟨aq,λy hy=> ?_⟩;simp only[dT,az]at hy;exact⟨k,i,by rw[<-hy];exact hk,q3.1,q3.2,rfl⟩
 have ax6:hi.map a.eval=aH->hh=n:=by
  intro hy;cases hi with
  |none=>simp only at h1;exact(ay.1 h1).symm
  |some x=>cases hy
 have lo1:ll<=hh/\∀y,lo.map a.eval=au y->∃k i,y= .int k i/\0<=i/\i<=(hh:Int)/\ll=i.toNat:=by
  cases lo with
  |none=>
   simp only at h3;obtain rfl:=ay.1 h3;exact⟨aS _,λy hy=>by cases hy⟩
  |some x=>
   simp only at h3;obtain⟨i,q1,q2⟩:=aw.1 h3;obtain⟨q3,q4⟩:=bQ.1 q2;obtain rfl:=ay.1 q4;simp only[aR]at q3;obtain⟨k,hk⟩:=yg (h.ev x) q1;refine⟨aq,λy hy=> ?_⟩;simp only[dT,az]at hy;exact⟨k,i,by rw[<-hy];exact hk,q3.1,q3.2,rfl⟩
 have lo0:lo.map a.eval=aH->ll=0:=by
  intro hy;cases lo with
  |none=>simp only at h3;exact(ay.1 h3).symm
  |some x=>cases hy
 refine⟨?_,lo1.1,aAy.1⟩;unfold Instr.sliceBounds;rcases hm with⟨rfl,rfl⟩ | ⟨k2,mv,hs,rfl,aF5,awS,rfl⟩
 ·cases aF1:hi.map a.eval with
  |none=>
   obtain rfl:=ax6 aF1;cases Qv:lo.map a.eval with
   |none=>
    obtain rfl:=lo0 Qv;rfl
   |some y=>
    obtain⟨k,i,rfl,q1,q2,rfl⟩:=lo1.2 y Qv;simp only[cg,dK,bE,xZ _ ⟨q1,q2⟩]
  |some z=>
   obtain⟨k',i',rfl,p1,p2,rfl⟩:=aAy.2 z aF1;have hb:∀code,(Instr.sliceBound (.int k' i') cap' code).run P w= .ok i'.toNat w:=λcode=>xZ code ⟨p1,aq⟩
   cases Qv:lo.map a.eval with
   |none=>
    obtain rfl:=lo0 Qv;simp only[cg,dK,bE,hb]
   |some y=>
    obtain⟨k,i,rfl,q1,q2,rfl⟩:=lo1.2 y Qv;simp only[cg,dK,bE,hb,xZ _ ⟨q1,q2⟩]
 ·cases aF1:hi.map a.eval with
  |none=>cases hi <;> simp_all
  |some z=>
   obtain⟨k',i',rfl,p1,p2,rfl⟩:=aAy.2 z aF1;have aF5:((i'.toNat:Nat):Int)<=mv:=aF5;have h0:∀code,(Instr.sliceBound (.int k2 mv) cap code).run P w= .ok mv.toNat w:=λcode=>xZ code ⟨aq,aq⟩
   have hb:∀code,(Instr.sliceBound (.int k' i') mv.toNat code).run P w= .ok i'.toNat w:=λcode=>xZ code ⟨p1,aq⟩
   cases Qv:lo.map a.eval with
   |none=>
    obtain rfl:=lo0 Qv;simp only[cg,dK,bE,hb,h0]
   |some y=>
    obtain⟨k,i,rfl,q1,q2,rfl⟩:=lo1.2 y Qv;simp only[cg,dK,bE,hb,h0,xZ _ ⟨q1,q2⟩]
theorem od{T:TypeId}{z:Nat}(h1:kz P T=au z)(h2:wD P T=aH):∃e,P.underlying T=au (.slice e)/\P.cellsOf e=z/\0 < z:=by
 unfold kz at h1;unfold wD at h2;split at h1
 ·rename_i n e hT;rw[hT]at h2;cases h2
 ·rename_i e hT;cases hc:P.cellsOf e with
  |zero=>rw[hc]at h1;cases h1
  |succ k=>
   rw[hc]at h1;simp only[az]at h1;exact⟨e,hT,aq,aq⟩
 ·cases h1
theorem w7{T:TypeId}{z n:Nat}(h1:kz P T=au z)(h2:wD P T=au n):∃e,P.underlying T=au (.array n e)/\P.cellsOf e=z/\0 < z:=by
 unfold kz at h1;unfold wD at h2;split at h1
 ·rename_i n e hT;rw[hT]at h2;simp only[az]at h2;subst h2;cases hc:P.cellsOf e with
  |zero=>rw[hc]at h1;cases h1
  |succ k=>
   rw[hc]at h1;simp only[az]at h1;exact⟨e,hT,aq,aq⟩
 ·rename_i e hT;rw[hT]at h2;cases h2
 ·cases h1
theorem oG{e:TypeId}{z:Nat}(h:P.cellsOf e=z)(hz:0 < z)(w:bV):(sizeOf e).run P w= .ok z w:=by
 unfold Program.cellsOf at h;cases hi:P.info? e with
 |none=>rw[hi]at h;simp at h;omega
 |some i=>rw[hi]at h;rw[run_sizeOf hi];simpa using h
set_option maxHeartbeats 1000000 in
theorem Uw(h:Inv C g β s a w){T:TypeId}{x:bI}{lo hi mx:Option bI}(ho:o.op= .slice T x lo hi mx)
  (hm:mx=aH\/∃m y hv mv,mx=au m/\hi=au y/\(asInt (s.ev y)).eval=au hv/\(asInt (s.ev m)).eval=au mv/\0<=hv/\hv<=mv/\mv<=ayC (s.ev x))
  {v:aF} (he:(Fq P s T (s.ev x) lo hi).eval=au v):fG P o a w (gW C (s.put o.dst (adm mx v))):=by
 have hx:=h.ev x;have fin:∀z,(Instr.sliceAt T (a.eval x) (lo.map a.eval) (hi.map a.eval) (mx.map a.eval)).run P w= .ok z w->VS (s.env w g β) (adm mx v) z->fG P o a w (gW C (s.put o.dst (adm mx v))):=by intro z h1 h2;exact h.value h2 (dU (f:=Instr.sliceAt T (a.eval x) (lo.map a.eval) (hi.map a.eval) (mx.map a.eval)) (by simp only[execOp,ho]) h1)
 have no:∀ {q:Prop},ayC (s.ev x)= -1->(mx=aH->q)->q:=by
  intro q h1 h2;rcases hm with h3 | ⟨_,_,hv,mv,_,_,_,_,h3,h4,h5⟩
  ·exact h2 h3
  ·omega
 have sl:∀(e:TypeId) (z:Nat) (ad:Option Addr) (len cap:Nat) (b:Nat×Nat),ayC (s.ev x)=(len:Int)->P.underlying T=au (.slice e)->P.cellsOf e=z->0 < z->a.eval x= .slice ad len cap->len<=cap->(bounds s len lo hi).eval=au b->
   ∃cap',(Instr.sliceAt T (a.eval x) (lo.map a.eval) (hi.map a.eval) (mx.map a.eval)).run P w= .ok (.slice (if cap'=b.1 then ad else ad.map (·.add (b.1*z))) (b.2 - b.1) (cap' - b.1)) w/\b.1<=b.2/\b.2<=len/\b.2<=cap'/\cap'<=cap/\(mx=aH->cap'=cap):=by
  intro e z ad len cap b hL hT hz og hy aqV hb;rcases hm with rfl | ⟨m,y,hv,mv,rfl,rfl,q1,q2,q3,q4,q5⟩
  ·obtain⟨h1,h2,h3⟩:=wN (P:=P) h aqV hb aO (.inl ⟨rfl,rfl⟩);refine⟨cap,?_,h2,h3,aq,aC _,λ_=>rfl⟩;rw[hy];simp[Instr.sliceAt,Instr.slice,run_underlying hT,h1,oG hz og]
  ·obtain⟨k,hk⟩:=yg (h.ev m) q2;have Qt:(b.2:Int)<=mv:=by obtain⟨hh,h1,h2⟩:=aw.1 hb;obtain⟨i,r1,r2⟩:=aw.1 h1;obtain⟨r3,r4⟩:=bQ.1 r2;obtain rfl:=ay.1 r4;obtain⟨ll,_,h4⟩:=aw.1 h2;obtain rfl:=ay.1 h4;rw[q1]at r1;obtain rfl:=aQ r1;show((hv.toNat:Nat):Int)<=mv;omega
   obtain⟨h1,h2,h3⟩:=wN (P:=P) h aqV hb aO (mx:=au (.int k mv)) (cap':=mv.toNat) (.inr ⟨k,mv,rfl,rfl,Qt,aq,rfl⟩);refine⟨mv.toNat,?_,h2,h3,aq,aq,λh=>by cases h⟩;rw[hy,dT (a:=m),hk];simp[Instr.sliceAt,Instr.slice,run_underlying hT,oG hz og];simp only[dT]at h1;simp[h1]
 have ar:∀(e:TypeId) (z n:Nat) (ad:Addr) (b:Nat×Nat),mx=aH->P.underlying T=au (.array n e)->P.cellsOf e=z->0 < z->a.eval x= .pointer (au ad)->(bounds s n lo hi).eval=au b->
   (Instr.sliceAt T (a.eval x) (lo.map a.eval) (hi.map a.eval) (mx.map a.eval)).run P w= .ok (.slice (au (if n=b.1 then ad else ad.add (b.1*z))) (b.2 - b.1) (n - b.1)) w/\b.1<=b.2/\b.2<=n:=by
  intro e z n ad b hN hT hz og hy hb;obtain⟨h1,h2,h3⟩:=wN (P:=P) h (aC n) hb aV (.inl ⟨rfl,rfl⟩);refine⟨?_,h2,h3⟩;rw[hy,hN];simp[Instr.sliceAt,Instr.sureAddr,run_underlying hT,h1,oG hz og]
 have cutR:∀(t:Ty) (z:Nat) (ad ad':Option Addr) (len' cap':Nat) (vs:List Value) (l:List t.den) (b:Nat×Nat),z=t.size->wB (s.env w g β) ad vs->bq (cG (s.env w g β) t) vs l->b.1<=b.2->b.2<=l.length->
   (∀bb off,ad=au ⟨bb,off,aH⟩->b.1 < b.2->ad'=au ⟨bb,off+b.1*z,aH⟩)->(b.1 < b.2->ad'.isSome=aO)->len'=b.2 - b.1->len'<=cap'->VS (s.env w g β) (.d (.slice t) (cut l b.1 (b.2 - b.1))) (.slice ad' len' cap'):=by
  intro t z ad ad' len' cap' vs l b hz hr hc h1 h2 aBQ pK hlen hle;subst hz hlen;have ahV:(cut l b.1 (b.2 - b.1)).length=b.2 - b.1:=yx aq;refine⟨_,?_,rfl⟩;simp only[V,cG];refine⟨ad',cap',(vs.drop (b.1*t.size)).take ((b.2 - b.1)*t.size),by rw[ahV],aq,by rw[ahV];intro hp;exact pK aq,?_,HF hc b.1 _⟩;intro i v hi;rw[cU]at hi;split at hi
  ·rename_i aJd;rw[fx]at hi;obtain⟨bb,off,e,hh⟩:=hr _ v hi;have iJ:b.1 < b.2:=by
    rcases oV b.1 b.2 with h' | h'
    ·exact h'
    ·rw[j5 h',mj]at aJd;omega
   exact⟨bb,_,aBQ bb off e iJ,by rw[dZ];exact hh⟩
  ·cases hi
 unfold Fq at he;split at he
 ·rename_i st nw;rw[nw]at hx;have e1:=Fu hx;obtain⟨h1,h2⟩:=aI.1 he;obtain⟨b,h3,h4⟩:=aw.1 h2;obtain rfl:=ay.1 h4;split at h1 <;> try (cases h1;done)
  rename_i hT;obtain⟨q1,q2,q3⟩:=wN (P:=P) h (aC _) h3 aV (.inl ⟨rfl,rfl⟩);refine no (by rw[nw];rfl) λhN=> ?_
  subst hN;refine fin (.string (st.extract b.1 b.2)) ?_ (Y2 _)
  rw[e1];simp[Instr.sliceAt,Instr.slice,run_underlying hT,q1]
 ·rename_i t l hl;rw[hl]at hx;obtain⟨ad,cap,vs,hy,aqV,pK,pP,uq⟩:=sK hx;obtain⟨h1,h2⟩:=aI.1 he;obtain⟨b,h3,h4⟩:=aw.1 h2;obtain rfl:=ay.1 h4;split at h1 <;> try (cases h1;done)
  rename_i z Ma Ka;obtain⟨e,hT,hz,og⟩:=od Ma Ka;have anZ:z=t.size:=by simpa using h1
  obtain⟨cap',q1,q2,q3,q4,_,_⟩:=sl e z ad _ cap b (by rw[hl];rfl) hT hz og hy aqV h3;refine fin _ q1 ?_
  rw[show adm mx (.d (.slice t) (cut l b.1 (b.2 - b.1)))= .d (.slice t) (cut l b.1 (b.2 - b.1)) by cases mx <;> rfl];refine cutR t z ad _ _ _ vs l b anZ pP uq q2 q3 ?_ ?_ rfl aq
  ·intro bb off e1 iJ;rw[if_neg aq,e1];simp[fv]
  ·intro iJ;rw[if_neg aq];have:=pK aq;cases ad <;> simp_all
 ·rename_i hl;rw[hl]at hx;have hy:=kH hx;obtain⟨h1,h2⟩:=aI.1 he;obtain⟨b,h3,h4⟩:=aw.1 h2;obtain rfl:=ay.1 h4;split at h1 <;> try (cases h1;done)
  rename_i z Ma Ka;obtain⟨e,hT,hz,og⟩:=od Ma Ka;obtain⟨cap',q1,q2,q3,q4,q6,q5⟩:=sl e z aH 0 0 b (by rw[hl];rfl) hT hz og hy (aC _) h3;have L8:b.1=0:=aq;have Qt:b.2=0:=aq;have Qu:cap'=0:=aq;refine fin _ q1 ?_
  rw[show adm mx .dd= .dd by cases mx <;> rfl,L8,Qt,Qu];exact⟨_,by simp[V],rfl⟩
 ·rename_i id ver p c i len hl;rw[hl]at hx;obtain⟨ad,cap,hy,aqV,pK,R0,fE⟩:=qn hx;obtain⟨r,aCd,he⟩:=aw.1 he;obtain⟨h1,h2⟩:=aI.1 he;obtain⟨b,h3,h4⟩:=aw.1 h2;obtain rfl:=ay.1 h4;split at h1 <;> try (cases h1;done)
  rename_i z Ma Ka;obtain⟨e,hT,hz,og⟩:=od Ma Ka;have anZ:z=r.2.1.size:=by simpa using h1
  obtain⟨cap',q1,q2,q3,q4,q6,q5⟩:=sl e z ad _ cap b (by rw[hl];rfl) hT hz og hy aqV h3;obtain⟨p',awT,P5⟩:∃p',adm mx (.cM id ver p (c+b.1*r.2.1.size) (i+b.1) (b.2 - b.1))= .cM id ver p' (c+b.1*r.2.1.size) (i+b.1) (b.2 - b.1)/\(p'=[]->p=[]/\mx=aH):=by
   cases mx with
   |none=>exact⟨p,rfl,λh=>⟨h,rfl⟩⟩
   |some m=>exact⟨p++ [.arr],rfl,λh=>by simp at h⟩
  refine fin _ q1 ?_
  rw[awT];refine⟨_,?_,rfl⟩;simp only[V];refine⟨_,_,rfl,aq,?_,R0,λhc=> ?_⟩
  ·intro iJ;rw[if_neg aq];have:=pK aq;cases ad <;> simp_all
  ·have fE:=fE hc;cases hp:β id with
   |none=>
    have hp':(s.env w g β).β id=aH:=hp;rw[hp']at fE ⊢;simp only at fE ⊢;obtain⟨rfl,rfl,rfl⟩:=fE;have Qu:cap'=0:=aq;refine⟨by simp,aq,aq⟩
   |some pl=>
    have hp':(s.env w g β).β id=au pl:=hp;rw[hp']at fE ⊢;simp only at fE ⊢;refine⟨λhh=> ?_,λaHg ax6=> ?_⟩
    ·by_cases aBS:cap'=b.1
     ·rw[if_pos aBS];have aFT:b.1=0:=aq;rw[aFT,mj,ct];exact fE.1 (.inr aq)
     ·rw[if_neg aBS,fE.1 aq,<-anZ];simp[fv]
    ·obtain⟨e1,e2⟩:=P5 aHg;have:=fE.2 e1 aq;have:=q5 e2;omega
 ·rename_i id ver p n hl;rw[hl]at hx;obtain⟨ad,hy,R0,fE⟩:=sG hx;obtain⟨r,aCd,he⟩:=aw.1 he;obtain⟨h1,h2⟩:=aI.1 he;obtain⟨h5,h6⟩:=bQ.1 h2;obtain⟨b,h3,h4⟩:=aw.1 h6;obtain rfl:=ay.1 h4;split at h1 <;> try (cases h1;done)
  rename_i z m Ma Ka;obtain⟨e,hT,hz,og⟩:=w7 Ma Ka;have anZ:z=r.2.1.size:=by simpa using h1
  rw[Ka,dQ]at h3;refine no (by rw[hl];rfl) λhN=> ?_
  obtain⟨q1,q2,q3⟩:=ar e z m ad b hN hT hz og hy h3;subst hN;obtain⟨fr,c0,cI,_⟩:=NC rfl h.bM aCd;obtain⟨pl,hp,ahS⟩:=fE ⟨fr,c0,cI⟩;refine fin _ q1 ⟨_,?_,rfl⟩;simp only[adm,V];refine⟨_,_,rfl,aq,λ_=>rfl,R0,λ_=> ?_⟩;rw[hp];simp only;refine⟨λhh=> ?_,λaHg=>by simp at aHg⟩;rw[ahS];by_cases aBS:m=b.1
  ·have aFT:b.1=0:=aq;rw[if_pos aBS,aFT,mj,ct]
  ·rw[if_neg aBS,<-anZ,fv]
 ·rename_i n t l hl;rw[hl]at hx;obtain⟨bb,off,vs,hy,pP,hR⟩:=mG hx;obtain⟨h1,h2⟩:=aI.1 he;obtain⟨b,h3,h4⟩:=aw.1 h2;obtain rfl:=ay.1 h4;split at h1 <;> try (cases h1;done)
  rename_i z m Ma Ka;obtain⟨e,hT,hz,og⟩:=w7 Ma Ka;simp only[al,dw]at h1;obtain⟨anZ,rfl⟩:=h1;refine no (by rw[hl];rfl) λhN=> ?_
  obtain⟨q1,q2,q3⟩:=ar e z m _ b hN hT hz og hy h3;subst hN;simp only[cG]at hR;obtain⟨hlen,uq⟩:=hR;refine fin _ q1 (cutR t z (au ⟨bb,off,aH⟩) _ _ _ vs l b anZ pP uq q2 aq ?_ (λ_=>rfl) rfl aq);intro bb' off' e1 iJ;simp only[az,Addr.mk.injEq,ea]at e1;obtain⟨rfl,rfl⟩:=e1;rw[if_neg aq,fv]
 ·simp only[av]at he
end
end Go.Ab
namespace Go.Ab
section
variable {P:aL} {C:Ctx} {g:Nat->lA} {β:Id->Option Pl} {s:AS} {a:Act} {w:bV} {o:Oper}
theorem Sa(h:Inv C g β s a w){T:TypeId}{x y:bI}(ho:o.op= .indexAddr T x y){i:Int}(hi:(asInt (s.ev y)).eval=au i){v:aF}(he:(qI P s T (s.ev x) i).eval=au v):fG P o a w (gW C (s.put o.dst v)):=by
 have hx:=h.ev x;obtain⟨k,hy⟩:=yg (h.ev y) hi;have fin:∀z,(Instr.indexAt T (a.eval x) (a.eval y)).run P w= .ok z w->VS (s.env w g β) v z->fG P o a w (gW C (s.put o.dst v)):=by intro z h1 h2;exact h.value h2 (dU (f:=Instr.indexAt T (a.eval x) (a.eval y)) (by simp only[execOp,ho]) h1)
 have sl:∀(e:TypeId) (z:Nat) (ad:Addr) (len cap:Nat),P.underlying T=au (.slice e)->P.cellsOf e=z->0 < z->a.eval x= .slice (au ad) len cap->0<=i/\i < (len:Int)->
   (Instr.indexAt T (a.eval x) (a.eval y)).run P w= .ok (.pointer (au (ad.add (i.toNat*z)))) w:=by
  intro e z ad len cap hT hz og hv hb;rw[hv,hy];simp[Instr.indexAt,asIntOf,run_underlying hT,hb,oG hz og]
 have ar:∀(e:TypeId) (z n:Nat) (ad:Addr),P.underlying T=au (.array n e)->P.cellsOf e=z->0 < z->a.eval x= .pointer (au ad)->0<=i/\i < (n:Int)->
   (Instr.indexAt T (a.eval x) (a.eval y)).run P w= .ok (.pointer (au (ad.add (i.toNat*z)))) w:=by
  intro e z n ad hT hz og hv hb;rw[hv,hy];simp[Instr.indexAt,Instr.sureAddr,asIntOf,run_underlying hT,hb,oG hz og]
 have elt:∀(t:Ty) (z:Nat) (bb off:Nat) (vs:List Value) (l:List t.den),z=t.size->wB (s.env w g β) (au ⟨bb,off,aH⟩) vs->bq (cG (s.env w g β) t) vs l->0<=i/\i < (l.length:Int)->
   VS (s.env w g β) (.eG t (nth t l i.toNat)) (.pointer (au ⟨bb,off+i.toNat*z,aH⟩)):=by
  intro t z bb off vs l hz hr hc hb;subst hz;have iJ:i.toNat < l.length:=aq;rw[Tk iJ];obtain⟨hp,_⟩:=Lq hc iJ;refine⟨_,?_,rfl⟩;simp only[V];refine⟨_,_,_,rfl,λj v hj=> ?_,hp⟩;rw[cU]at hj;split at hj
  ·rw[fx]at hj;obtain⟨b',o',e,hh⟩:=hr _ v hj;simp only[az,Addr.mk.injEq,ea]at e;obtain⟨rfl,rfl⟩:=e;exact⟨_,_,rfl,by rw[dZ];exact hh⟩
  ·cases hj
 unfold qI at he;split at he
 ·rename_i t l hl;rw[hl]at hx;obtain⟨ad,cap,vs,hv,aqV,pK,pP,uq⟩:=sK hx;obtain⟨h1,h2⟩:=aI.1 he;obtain⟨h3,h4⟩:=bQ.1 h2;obtain rfl:=ay.1 h4;simp only[aR]at h3;split at h1 <;> try (cases h1;done)
  rename_i z Ma Ka;obtain⟨e,hT,hz,og⟩:=od Ma Ka;have anZ:z=t.size:=by simpa using h1
  have hlen:=bq.length (λc x hx=>cG.size hx) uq;have iJ:i.toNat < l.length:=aq;have h0:0 < vs.length:=by rw[hlen];exact Nat.mul_pos aq aq
  obtain⟨bb,off,e1,_⟩:=pP 0 vs[0] (by simp[h0]);subst e1;have:=sl e z _ _ cap hT hz og hv h3;rw[fv]at this;exact fin _ this (elt t z bb off vs l anZ pP uq h3)
 ·rename_i n t l hl;rw[hl]at hx;obtain⟨bb,off,vs,hv,pP,hR⟩:=mG hx;obtain⟨h1,h2⟩:=aI.1 he;obtain⟨h3,h4⟩:=bQ.1 h2;obtain rfl:=ay.1 h4;simp only[aR]at h3;split at h1 <;> try (cases h1;done)
  rename_i z m Ma Ka;obtain⟨e,hT,hz,og⟩:=w7 Ma Ka;simp only[al,dw]at h1;obtain⟨anZ,rfl⟩:=h1;simp only[cG]at hR;have:=ar e z m _ hT hz og hv h3;rw[fv]at this;exact fin _ this (elt t z bb off vs l anZ pP hR.2 (by rw[hR.1];exact h3))
 ·rename_i id ver p c j len hl;rw[hl]at hx;obtain⟨ad,cap,hv,aqV,pK,R0,fE⟩:=qn hx;obtain⟨r,aCd,he⟩:=aw.1 he;obtain⟨h1,h2⟩:=aI.1 he;obtain⟨h3,h4⟩:=bQ.1 h2;obtain rfl:=ay.1 h4;simp only[aR]at h3;split at h1 <;> try (cases h1;done)
  rename_i z Ma Ka;obtain⟨e,hT,hz,og⟩:=od Ma Ka;have anZ:z=r.2.1.size:=by simpa using h1
  have hs:=pK aq;obtain⟨ad',rfl⟩:=bD.1 hs;refine fin _ (sl e z ad' len cap hT hz og hv h3) ⟨_,?_,rfl⟩;simp only[V];refine⟨_,rfl,R0,λhc=> ?_⟩;have fE:=fE hc;cases hp:β id with
  |none=>
   have hp':(s.env w g β).β id=aH:=hp;rw[hp']at fE;exact absurd fE.1 (by simp)
  |some pl=>
   have hp':(s.env w g β).β id=au pl:=hp;rw[hp']at fE;have e1:=fE.1 (.inl aq);simp only[az]at e1;exact⟨pl,hp,by rw[e1,fv,anZ]⟩
 ·rename_i id ver p n hl;rw[hl]at hx;obtain⟨ad,hv,R0,fE⟩:=sG hx;obtain⟨h1,h2⟩:=aI.1 he;obtain⟨h3,h4⟩:=bQ.1 h2;obtain rfl:=ay.1 h4;simp only[aR]at h3;split at h1 <;> try (cases h1;done)
  rename_i z m Ma Ka;obtain⟨e,hT,hz,og⟩:=w7 Ma Ka;rw[Ka,dQ]at h3;refine fin _ (ar e z m ad hT hz og hv h3) ⟨_,?_,rfl⟩;simp only[V];refine⟨_,rfl,R0,λhc=> ?_⟩;obtain⟨pl,hp,ahS⟩:=fE hc;exact⟨pl,hp,by rw[ahS,fv,Ma,dQ]⟩
 ·simp only[av]at he
theorem Db{T:TypeId}{f off:Nat}{ft:TypeId}(h:fieldInfo P T f=au (off,ft)):∃fs fd,P.underlying T=au (.struct fs)/\fs[f]? =au fd/\fd.offset=off/\fd.type=ft:=by
 unfold fieldInfo at h;split at h
 ·rename_i fs hT;split at h
  ·rename_i fd hf;simp only[az,cF]at h;exact⟨fs,fd,hT,hf,h.1,h.2⟩
  ·cases h
 ·cases h
theorem xu{E:Env}:∀(x:aF) (f off:Nat) (v:aF) (cs:List Value),V E x cs->partOf x f=au (off,v)->V E v ((cs.drop off).take v.size)/\off+v.size<=cs.length:=by
 intro x f
 induction f generalizing x with
 |zero=>
  intro off v cs hx h;cases x with
  |d t y=>
   cases t <;> simp only[partOf,reduceCtorEq]at h;rename_i ta tb;simp only[az,cF]at h;obtain⟨rfl,rfl⟩:=h;simp only[V,cG]at hx ⊢;obtain⟨ca,cb,rfl,ha,hb⟩:=hx;have:=ha.size;simp only[aF.size,aN,ak,aU];rw[ke this];exact⟨ha,aq⟩
  |pr b c=>
   simp only[partOf,az,cF]at h;obtain⟨rfl,rfl⟩:=h;simp only[V]at hx;obtain⟨ca,cb,rfl,ha,hb⟩:=hx;have:=ha.size;simp only[aN,ak,aU];rw[ke this];exact⟨ha,aq⟩
  |_=>simp only[partOf,reduceCtorEq]at h
 |succ f ih=>
  intro off v cs hx h;have second:∀(ca cb:List Value) (n:Nat) (b:aF),cs=ca++cb->ca.length=n->V E b cb->(match partOf b f with | some (o,v)=>au (n+o,v) | none=>aH)=au (off,v)->V E v ((cs.drop off).take v.size)/\off+v.size<=cs.length:=by
   intro ca cb n b e hl hb hh;cases hp:partOf b f with
   |none=>rw[hp]at hh;cases hh
   |some r=>
    obtain⟨o',v'⟩:=r;rw[hp]at hh;simp only[az,cF]at hh;obtain⟨rfl,rfl⟩:=hh;obtain⟨h1,h2⟩:=ih b o' v' cb hb hp;subst e;rw[<-hl,jM,gh aq,aT,jf];exact⟨h1,by simp only[ak];omega⟩
  cases x with
  |d t y=>
   cases t with
   |pair ta tb=>
    simp only[partOf]at h;simp only[V,cG]at hx;obtain⟨ca,cb,e,ha,hb⟩:=hx;exact second ca cb ta.size (.d tb y.2) e ha.size (by simpa only[V]using hb) h
   |_=>simp only[partOf,reduceCtorEq]at h
  |pr b c=>
   simp only[partOf]at h;simp only[V]at hx;obtain⟨ca,cb,e,ha,hb⟩:=hx;exact second ca cb b.size c e ha.size hb h
  |_=>simp only[partOf,reduceCtorEq]at h
theorem RM(h:Inv C g β s a w){T:TypeId}{x:bI}{f:Nat}(ho:o.op= .fieldAddr T x f){v:aF}(he:(Cj P T (s.ev x) f).eval=au v):fG P o a w (gW C (s.put o.dst v)):=by
 have hx:=h.ev x;unfold Cj at he;split at he
 ·rename_i off ft hf;obtain⟨fs,fd,hT,aDC,rfl,rfl⟩:=Db hf;obtain⟨h1,h2⟩:=aI.1 he;have hz:P.cellsOf fd.type≠0:=by simpa using h1
  have run:∀bb n,a.eval x= .pointer (au ⟨bb,n,aH⟩)->(Instr.fieldAt T (a.eval x) f).run P w= .ok (.pointer (au ⟨bb,n+fd.offset,aH⟩)) w:=by intro bb n hy;rw[hy];simp[Instr.fieldAt,run_underlying hT,aDC,Instr.sureAddr,fieldPlace,oG (P:=P) (e:=fd.type) rfl aq,hz,fv]
  have runS:∀ad,a.eval x= .pointer (au ad)->(Instr.fieldAt T (a.eval x) f).run P w= .ok (.pointer (au (ad.add fd.offset))) w:=by intro ad hy;rw[hy];simp[Instr.fieldAt,run_underlying hT,aDC,Instr.sureAddr,fieldPlace,oG (P:=P) (e:=fd.type) rfl aq,hz]
  have fin:∀z,(Instr.fieldAt T (a.eval x) f).run P w= .ok z w->VS (s.env w g β) v z->fG P o a w (gW C (s.put o.dst v)):=by intro z h1 h2;exact h.value h2 (dU (f:=Instr.fieldAt T (a.eval x) f) (by simp only[execOp,ho]) h1)
  split at h2
  ·rename_i id ver p n hl;rw[hl]at hx;obtain rfl:=ay.1 h2;obtain⟨ad,hy,R0,fE⟩:=sG hx;refine fin _ (runS ad hy) ⟨_,?_,rfl⟩;simp only[V];refine⟨_,rfl,R0,λhc=> ?_⟩;obtain⟨pl,hp,ahS⟩:=fE hc;exact⟨pl,hp,by rw[ahS,fv]⟩
  ·rename_i t y hl;rw[hl]at hx;obtain⟨bb,off,vs,hy,pP,hR⟩:=mG hx;split at h2
   ·rename_i o' t' y' hp;obtain⟨h3,h4⟩:=aI.1 h2;obtain rfl:=ay.1 h4;have h3:fd.offset=o':=by simpa using h3
    obtain⟨hV,hle⟩:=xu (.d t y) f o' (.d t' y') vs (by simpa only[V]using hR) hp;refine fin _ (run bb off hy) ⟨_,?_,rfl⟩;simp only[V]at hV ⊢;refine⟨_,_,_,rfl,λj u hj=> ?_,hV⟩;rw[cU]at hj;split at hj
    ·rw[fx]at hj;obtain⟨b',o'',e,hh⟩:=pP _ u hj;simp only[az,Addr.mk.injEq,ea]at e;obtain⟨rfl,rfl⟩:=e;exact⟨_,_,rfl,by rw[h3,dZ];exact hh⟩
    ·cases hj
   ·simp only[av]at h2
  ·rename_i t q hl;obtain⟨y,e,h5⟩:=lI.1 h2;subst e;rw[hl]at hx;have hx:=J1 hx;obtain⟨bb,off,vs,hy,pP,hR⟩:=mG hx;split at h5
   ·rename_i o' t' y' hp;obtain⟨h3,h4⟩:=aI.1 h5;obtain rfl:=ay.1 h4;have h3:fd.offset=o':=by simpa using h3
    obtain⟨hV,hle⟩:=xu (.d t y) f o' (.d t' y') vs (by simpa only[V]using hR) hp;refine fin _ (run bb off hy) ⟨_,?_,rfl⟩;simp only[V]at hV ⊢;refine⟨_,_,_,rfl,λj u hj=> ?_,hV⟩;rw[cU]at hj;split at hj
    ·rw[fx]at hj;obtain⟨b',o'',e,hh⟩:=pP _ u hj;simp only[az,Addr.mk.injEq,ea]at e;obtain⟨rfl,rfl⟩:=e;exact⟨_,_,rfl,by rw[h3,dZ];exact hh⟩
    ·cases hj
   ·simp only[av]at h5
  ·rename_i t q hl;obtain⟨y,e,h5⟩:=lI.1 h2;subst e;rw[hl]at hx;have hx:=Kf hx;obtain⟨bb,off,vs,hy,pP,hR⟩:=mG hx;split at h5
   ·rename_i o' t' y' hp;obtain⟨h3,h4⟩:=aI.1 h5;obtain rfl:=ay.1 h4;have h3:fd.offset=o':=by simpa using h3
    obtain⟨hV,hle⟩:=xu (.d t y.2) f o' (.d t' y') vs (by simpa only[V]using hR) hp;refine fin _ (run bb off hy) ⟨_,?_,rfl⟩;simp only[V]at hV ⊢;refine⟨_,_,_,rfl,λj u hj=> ?_,hV⟩;rw[cU]at hj;split at hj
    ·rw[fx]at hj;obtain⟨b',o'',e,hh⟩:=pP _ u hj;simp only[az,Addr.mk.injEq,ea]at e;obtain⟨rfl,rfl⟩:=e;exact⟨_,_,rfl,by rw[h3,dZ];exact hh⟩
    ·cases hj
   ·simp only[av]at h5
  ·simp only[av]at h2
 ·simp only[av]at he
theorem Vn{x:aF}{f:Nat}{r:Nat×aF}(h:partOf x f=au r):x.agg=aO/\x.eJ=aO:=by
 cases x with
 |d t y=>cases t <;> cases f <;> simp[partOf]at h <;> exact⟨rfl,rfl⟩
 |pr b c=>exact⟨rfl,rfl⟩
 |_=>cases f <;> simp[partOf]at h
theorem Ej{T:TypeId}{v:aF}(h:fits P T v=aO):Ic P T v.agg=aO/\P.cellsOf T=v.size/\v.eJ=aO:=by unfold fits at h;simp only[al,dw]at h;exact⟨h.2,h.1.2,h.1.1⟩
theorem ahH(h:Inv C g β s a w){T:TypeId}{x:bI}{f:Nat}(ho:o.op= .field T x f){v:aF}(he:(ZU P T (s.ev x) f).eval=au v):fG P o a w (gW C (s.put o.dst v)):=by
 have hx:=h.ev x;unfold ZU at he;split at he
 ·rename_i off ft o' v' hf hp;obtain⟨fs,fd,hT,aDC,rfl,rfl⟩:=Db hf;obtain⟨h1,h2⟩:=aI.1 he;obtain rfl:=ay.1 h2;simp only[al,dw]at h1;obtain⟨rfl,R2⟩:=h1;obtain⟨I7,ahU⟩:=Vn hp;obtain⟨cs,hV,hO⟩:=hx.eJ ahU;rw[I7]at hO;have hy:a.eval x= .agg cs.toArray:=hO;obtain⟨hVp,hle⟩:=xu _ _ _ _ cs hV hp;obtain⟨q1,q2,q3⟩:=Ej R2;obtain⟨y,hr,hOy⟩:=vP (w:=w) q1 q2 (λhh=>aF.afP hh) hle;refine h.value (VS.of hVp hOy) (dU (f:=Instr.field T (a.eval x) f) (by simp only[execOp,ho]) ?_);rw[hy];simp[Instr.field,run_underlying hT,aDC,asAgg,hr]
 ·simp only[av]at he
theorem ah9(h:Inv C g β s a w){T:TypeId}{x y:bI}(ho:o.op= .index T x y){i:Int}(hi:(asInt (s.ev y)).eval=au i){v:aF}(he:(aaf P T (s.ev x) i).eval=au v):fG P o a w (gW C (s.put o.dst v)):=by
 have hx:=h.ev x;obtain⟨k,hy⟩:=yg (h.ev y) hi;have fin:∀z,(Instr.index T (a.eval x) (a.eval y)).run P w= .ok z w->VS (s.env w g β) v z->fG P o a w (gW C (s.put o.dst v)):=by intro z h1 h2;exact h.value h2 (dU (f:=Instr.index T (a.eval x) (a.eval y)) (by simp only[execOp,ho]) h1)
 unfold aaf at he;split at he
 ·rename_i n t l m e hl hT;rw[hl]at hx;obtain⟨h1,h2⟩:=aI.1 he;obtain⟨h3,h4⟩:=bQ.1 h2;obtain rfl:=ay.1 h4;simp only[al,dw,aR]at h1 h3;obtain⟨rfl,R2⟩:=h1;obtain⟨q1,q2,q3⟩:=Ej R2;obtain⟨cs,hV,hO⟩:=hx.eJ rfl;have aJN:a.eval x= .agg cs.toArray:=hO;simp only[V,cG]at hV;obtain⟨hlen,uq⟩:=hV;have iJ:i.toNat < l.length:=aq;obtain⟨hp,hle⟩:=Lq uq iJ;have q2':P.cellsOf e=t.size:=q2;have q1':Ic P e t.agg=aO:=q1;obtain⟨y',hr,hOy⟩:=vP (w:=w) q1' q2' vS hle;obtain⟨j,hj,_⟩:=xj q1';rw[<-Tk iJ]at hp;refine fin y' ?_ (VS.of (by simpa only[V]using hp) hOy)
  rw[aJN,hy];have re:=run_sizeOf hj w;rw[<-mr hj,q2']at re;simp[Instr.index,asIntOf,run_underlying hT,h3,re,hr]
 ·rename_i st hl hT;rw[hl]at hx;obtain⟨h3,h4⟩:=bQ.1 he;obtain rfl:=ay.1 h4;simp only[aR]at h3;have e1:=Fu hx;have iJ:i.toNat < st.data.toList.length:=by
   have:st.size=st.data.toList.length:=by rw[cO];rfl
   omega
  have aGT:st[i.toNat]? =au (st.data.toList[i.toNat]):=by have hlt':i.toNat < st.size:=aq;rw[getElem?_pos st i.toNat hlt'];rfl
  refine fin (.int .u8 ((st.data.toList.getD i.toNat 0).toNat:Int)) ?_ (kS _ _)
  rw[e1,hy];simp[Instr.index,asIntOf,run_underlying hT,h3.1,aGT,aJ,bW iJ]
 ·simp only[av]at he
theorem aBe{E:Env}:∀(c:aF) (vs:List Value) (i:Nat) (v:aF),VC E c vs->c.list[i]? =au v->∃y,vs[i]? =au y/\VS E v y:=by
 intro c
 induction c with
 |cons x y _ ih=>
  intro vs i v hc hi;simp only[VC]at hc;obtain⟨u,vs',cs,rfl,hV,hO,hc⟩:=hc;cases i with
  |zero=>
   simp only[aF.list,fR,az]at hi;subst hi;exact⟨u,rfl,VS.of hV hO⟩
  |succ i=>
   simp only[aF.list,lE]at hi ⊢;exact ih vs' i v hc hi
 |_=>intro vs i v hc hi;simp[aF.list]at hi
theorem ZP(h:Inv C g β s a w){x:bI}{i:Nat}(ho:o.op= .extract x i){v:aF}(he:(Out.opt ((s.ev x).list[i]?)).eval=au v):fG P o a w (gW C (s.put o.dst v)):=by
 have hx:=h.ev x;have he:=jd.1 he;cases hc:s.ev x with
 |cons p q=>
  rw[hc]at hx he;obtain⟨vs,hy,hVC⟩:=hx;obtain⟨y,hv,hVS⟩:=aBe _ vs i v hVC he;refine h.value hVS (dU (f:=Instr.extract (a.eval x) i) (by simp only[execOp,ho]) ?_);rw[hy];simp[Instr.extract,hv]
 |_=>rw[hc]at he;simp[aF.list]at he
theorem akm(h:Inv C g β s a w):∀(l:List bI),yk (qC s l)=aO->VC (s.env w g β) (qC s l) (l.map a.eval)
 |[],_=>by simp[qC,VC]
 |x::xs,hc=>by simp only[qC,yk,al]at hc;obtain⟨cs,hV,hO⟩:=(h.ev x).eJ hc.1;simp only[qC,VC,bn];exact⟨_,_,cs,rfl,hV,hO,akm h xs hc.2⟩
theorem VU(h:Inv C g β s a w){f:fw}{first caps:Array bI}(ho:o.op= .makeFunc (.func f) first caps)(h1:first.isEmpty=aO)(h2:yk (qC s caps.toList)=aO):
  fG P o a w (gW C (s.put o.dst (.fn f (qC s caps.toList)))):=by
 have hf:first= #[]:=by simpa using h1
 refine h.value (x:= .func (.func f) #[] (caps.toList.map a.eval).toArray) ⟨_,?_,rfl⟩ (dU (f:=Instr.makeFunc (.func f) (first.map a.eval) (caps.map a.eval)) (by simp only[execOp,ho]) ?_)
 ·simp only[V];exact⟨_,rfl,akm h _ h2⟩
 ·subst hf;have:caps.map a.eval=(caps.toList.map a.eval).toArray:=by apply gv;simp
  simp[Instr.makeFunc,this]
theorem aj0(h:Inv C g β s a w){T:TypeId}{x:bI}(ho:o.op= .sliceToArrayPointer T x){s':AS}(he:(IS P s o.dst T (s.ev x)).eval=au s'):fG P o a w (gW C s'):=by
 have hx:=h.ev x;unfold IS at he;split at he
 ·rename_i n e hT;split at he
  ·rename_i t ht;obtain⟨h1,h2⟩:=aI.1 he;obtain⟨l,h3,h4⟩:=aw.1 h2;obtain⟨h5,h6⟩:=bQ.1 h4;obtain rfl:=ay.1 h6;simp only[al,bP,dw,gz,aR]at h1 h5;obtain⟨⟨hz,hn⟩,aCo⟩:=h1;obtain⟨g1,i1,e1,t1,cs,hR,hO⟩:=ze h hx h3;simp only[cG]at hR;obtain⟨ad,cap,vs,rfl,aqV,pK,pP,uq⟩:=hR;have hO': [Value.slice ad (ae l) cap]=[a.eval x]:=hO;have hy:a.eval x= .slice ad (ae l) cap:=by simpa using hO'.symm
   have hlen:=bq.length (λc x hx=>cG.size hx) uq;have h0:0 < vs.length:=by rw[hlen];exact Nat.mul_pos aq aq
   obtain⟨bb,off,e2,_⟩:=pP 0 vs[0] (by simp[h0]);subst e2;refine .inl ⟨.pointer (au ⟨bb,off,aH⟩),w,?_,g1,β,i1.put o.dst ⟨_,?_,rfl⟩⟩
   ·refine dU (f:=Instr.arrayAt T (a.eval x)) (by simp only[execOp,ho]) ?_
    rw[hy];have:¬ae l < n:=aq;simp[Instr.arrayAt,run_underlying hT,this]
   ·simp only[V];refine⟨bb,off,vs.take (n*t.size),rfl,λj u hj=> ?_,?_⟩
    ·rw[cU]at hj;split at hj
     ·exact pP j u hj
     ·cases hj
    ·simp only[cG];exact⟨by simp;omega,bq.take (λ_ _ hx=>hx.size) n uq⟩
  ·simp only[av]at he
 ·simp only[av]at he
end
end Go.Ab
namespace Go.Ab
theorem Ss{α:Type}{f:α->α->Bool}(hf:∀x y,f x y=aO->x=y):∀ {xs ys:List α},mB f xs ys=aO->xs=ys
 |[],[],_=>rfl
 |x::xs,y::ys,h=>by simp only[mB,al]at h;rw[hf _ _ h.1,Ss hf h.2]
 |[],_::_,h=>by simp[mB]at h
 |_::_,[],h=>by simp[mB]at h
theorem beq_eq:∀(t:Ty) (x y:t.den),t.comp=aO->t.beq x y=aO->x=y
 | .int _,x,y,_,h=>by simpa[Ty.beq]using h
 | .bool,x,y,_,h=>by simpa[Ty.beq]using h
 | .str,x,y,_,h=>by
  have h:(x:ByteArray).toList=(y:ByteArray).toList:=by simpa[Ty.beq]using h
  rw[Go.ByteArray.toList_eq,Go.ByteArray.toList_eq]at h;exact ByteArray.ext (Array.toList_inj.1 h)
 | .slice _,_,_,h,_=>by simp[Ty.comp]at h
 | .unit,_,_,_,_=>rfl
 | .pair a b,x,y,hc,h=>by simp only[Ty.comp,al]at hc;simp only[Ty.beq,al]at h;exact Prod.ext (beq_eq a _ _ hc.1 h.1) (beq_eq b _ _ hc.2 h.2)
 | .arr _ t,x,y,hc,h=>Ss (λx y=>beq_eq t x y hc) h
 | .gR t,x,y,_,h=> @of_decide_eq_true _ ((Ty.gR t).aqR x y) h
theorem cG.aai{E:Env}{t:Ty}{cs:List Value}{x:(Ty.gR t).den}(h:cG E (.gR t) cs x):cs=[.pointer ((x:Option (Nat×t.den)).map λp=>⟨p.1,0,aH⟩)]:=by
 simp only[cG]at h;cases hx:(x:Option (Nat×t.den)) with
 |none=>exact h.1 hx
 |some u=>
  obtain⟨_,_,_,e,_⟩:=h.2 u hx;exact e
def Plain(c:Value):Prop:=∀n,Instr.sameBits n c c=aO
theorem cG.plain{E:Env}:∀ {t:Ty} {cs:List Value} {x:t.den},t.comp=aO->cG E t cs x->∀c∈cs,Plain c
 | .int _,_,_,_,h,c,hc,n=>by simp only[cG]at h;rw[h,bf]at hc;subst hc;cases n <;> simp[Instr.sameBits]
 | .bool,_,_,_,h,c,hc,n=>by simp only[cG]at h;rw[h,bf]at hc;subst hc;cases n <;> simp[Instr.sameBits]
 | .str,_,_,_,h,c,hc,n=>by simp only[cG]at h;rw[h,bf]at hc;subst hc;cases n <;> exact(Go.MapKept.bytes_beq _ _).2 rfl
 | .slice _,_,_,hc,_,_,_,_=>by simp[Ty.comp]at hc
 | .unit,_,_,_,h,c,hc,_=>by simp only[cG]at h;rw[h]at hc;cases hc
 | .pair a b,_,_,hp,h,c,hc,n=>by
  simp only[Ty.comp,al]at hp;simp only[cG]at h;obtain⟨ca,cb,rfl,ha,hb⟩:=h;rcases bp.1 hc with hc | hc
  ·exact cG.plain hp.1 ha c hc n
  ·exact cG.plain hp.2 hb c hc n
 | .arr _ t,_,_,hp,h,c,hc,n=>by simp only[cG]at h;exact bq.all (p:=Plain) (λc x hx v hv=>cG.plain (t:=t) hp hx v hv) h.2 c hc n
 | .gR t,_,x,_,h,c,hc,n=>by rw[h.aai,bf]at hc;subst hc;cases n <;> simp[Instr.sameBits]
theorem cG.aBw{E:Env}:∀ {t:Ty} {cs cs':List Value} {x:t.den},t.comp=aO->cG E t cs x->cG E t cs' x->cs=cs'
 | .int _,_,_,_,_,h,h'=>by simp only[cG]at h h';rw[h,h']
 | .bool,_,_,_,_,h,h'=>by simp only[cG]at h h';rw[h,h']
 | .str,_,_,_,_,h,h'=>by simp only[cG]at h h';rw[h,h']
 | .slice _,_,_,_,hc,_,_=>by simp[Ty.comp]at hc
 | .unit,_,_,_,_,h,h'=>by simp only[cG]at h h';rw[h,h']
 | .pair a b,_,_,_,hp,h,h'=>by simp only[Ty.comp,al]at hp;simp only[cG]at h h';obtain⟨ca,cb,rfl,ha,hb⟩:=h;obtain⟨ca',cb',rfl,ha',hb'⟩:=h';rw[cG.aBw hp.1 ha ha',cG.aBw hp.2 hb hb']
 | .arr _ t,cs,cs',x,hp,h,h'=>by
  simp only[cG]at h h';have key:∀(l:List t.den) (cs cs':List Value),bq (cG E t) cs l->bq (cG E t) cs' l->cs=cs':=by
   intro l
   induction l with
   |nil=>intro cs cs' h h';have h:cs=[]:=h;have h':cs'=[]:=h';rw[h,h']
   |cons x l ih=>
    intro cs cs' h h';obtain⟨c,r,rfl,hx,hr⟩:=h;obtain⟨c',r',rfl,hx',hr'⟩:=h';rw[cG.aBw (t:=t) hp hx hx',ih _ _ hr hr']
  exact key _ _ _ h.2 h'.2
 | .gR t,_,_,_,_,h,h'=>by rw[h.aai,h'.aai]
theorem A9.aBw{E:Env}{t:Ty}{v v':Value}{x:t.den}(hc:t.comp=aO)(h:A9 E t v x)(h':A9 E t v' x):v=v':=by
 obtain⟨cs,h1,h2⟩:=h;obtain⟨cs',h1',h2'⟩:=h';have e:=cG.aBw hc h1 h1';subst e;unfold fT at h2 h2';cases ha:t.agg with
 |true=>rw[ha]at h2 h2';rw[h2,h2']
 |false=>
  rw[ha]at h2 h2';have h2:cs=[v]:=h2;have h2':cs=[v']:=h2';rw[h2]at h2';simpa using h2'
theorem A9.same{E:Env}{t:Ty}{v:Value}{x:t.den}(hc:t.comp=aO)(h:A9 E t v x):Instr.sameBits 10000 v v=aO:=by
 obtain⟨cs,h1,h2⟩:=h;have hp:=cG.plain hc h1;unfold fT at h2;cases ha:t.agg with
 |true=>
  rw[ha]at h2;have h2:v= .agg cs.toArray:=h2;subst h2;simp only[Instr.sameBits,beq_self_eq_true,dD,dj];intro p hp';obtain⟨a,b⟩:=p;have:∀(l:List Value),(a,b)∈l.zip l->a∈l/\a=b:=by
   intro l
   induction l with
   |nil=>intro h;simp at h
   |cons y l ih=>
    intro h;simp only[List.zip_cons_cons,bA,cF]at h;rcases h with⟨rfl,rfl⟩ | h
    ·exact⟨aG,rfl⟩
    ·exact⟨aD _ (ih h).1,(ih h).2⟩
  obtain⟨hm,rfl⟩:=this _ hp';exact hp a (by simpa using hm) _
 |false=>
  rw[ha]at h2;have h2:cs=[v]:=h2;subst h2;exact hp v (by simp) _
theorem apT{P:aL}{w:bV}{E:Env}{t:Ty}{v:Value}{x:t.den}(hc:t.comp=aO)(h:A9 E t v x):(Instr.keyThatStays v v).run P w= .ok v w:=by unfold Instr.keyThatStays;rw[if_pos (h.same hc)];rfl
section
variable {P:aL} {w:bV} {E:Env}
theorem yA:∀(n:Nat) (T:TypeId) (t:Ty),ra P n T t=aO->t.comp=aO
 | 0,T,t,h=>by simp[ra]at h
 |n+1,T,t,h=>by
  simp only[ra]at h;split at h
  ·rfl
  ·rfl
  ·rfl
  ·rfl
  ·rename_i m e m' t' hT;simp only[al]at h;exact yA n e t' h.2
  ·rename_i t0 _ _ fs hT;simp only[al]at h;have key:∀(fl:List Field) (t:Ty) (off:Nat),HY P (ra P n) fl t off=aO->t.comp=aO:=by
    intro fl
    induction fl with
    |nil=>intro t off hc;cases t <;> first | rfl | (simp[HY]at hc;done)
    |cons f fl ih=>
     intro t off hc;cases t <;> first | (simp[HY]at hc;done) | skip
     rename_i ta tb;simp only[HY,al]at hc;simp only[Ty.comp,al];exact⟨yA n _ _ hc.1.2,ih tb _ hc.2⟩
   exact key _ _ _ h.2
  ·cases h
theorem nU(em:Bool):∀(n:Nat) (T:TypeId) (t:Ty),ra P n T t=aO->∀(d:Nat),n<=d->∀(v:Value) (x:t.den),A9 E t v x->(Instr.checkKey em d T v).run P w= .ok () w
 | 0,T,t,h,_,_,_,_,_=>by simp[ra]at h
 |n+1,T,t,h,0,hd,_,_,_=>aq
 |n+1,T,t,h,d+1,hd,v,x,⟨cs,hx,hv⟩=>by
  simp only[ra]at h;split at h
  ·rename_i hT;simp only[cG]at hx;have e1:cs=[v]:=hv;rw[hx]at e1;simp only[cD,ea]at e1;subst e1;simp[Instr.checkKey,run_underlying hT]
  ·rename_i hT;simp only[cG]at hx;have e1:cs=[v]:=hv;rw[hx]at e1;simp only[cD,ea]at e1;subst e1;simp[Instr.checkKey,run_underlying hT]
  ·rename_i hT;simp only[cG]at hx;have e1:cs=[v]:=hv;rw[hx]at e1;simp only[cD,ea]at e1;subst e1;simp[Instr.checkKey,run_underlying hT]
  ·rename_i U t' hT;simp only[cG]at hx;have e1:cs=[v]:=hv;subst e1;cases anX:(x:Option (Nat×t'.den)) with
   |none=>
    have e2:=hx.1 anX;simp only[cD,ea]at e2;subst e2;simp[Instr.checkKey,run_underlying hT]
   |some a=>
    obtain⟨_,_,_,e2,_⟩:=hx.2 a anX;simp only[cD,ea]at e2;subst e2;simp[Instr.checkKey,run_underlying hT]
  ·rename_i m e m' t' hT;simp only[al,dw]at h;obtain⟨⟨⟨⟨rfl,aCo⟩,re⟩,I7⟩,uq⟩:=h;simp only[cG]at hx;obtain⟨aG5,aGQ⟩:=hx;have e1:v= .agg cs.toArray:=hv;subst e1;obtain⟨i,hi,adM⟩:=xj I7;have hsz':=re;rw[mr hi]at hsz';simp only[Instr.checkKey,cg,run_underlying hT,bE];simp only[Std.Legacy.Range.forIn_eq_forIn_range'];have hm:([:m]:Std.Legacy.Range).size=m:=by simp[Std.Legacy.Range.size]
   rw[hm];have agz:∀c z,cG E t' c z->c.length=t'.size:=λc z hz=>hz.size
   have bx:t'.agg=aV->t'.size=1:=vS
   have key:∀(k:Nat) (x:List t'.den) (j:Nat),x.length=k->bq (cG E t') (cs.drop (j*t'.size)) x->
     (forIn (List.range' j k) () λi __s=>(do
      let __do_lift <-sizeOf e
      let __do_lift <-part e cs.toArray (i*__do_lift)
      Instr.checkKey em d e __do_lift
      pure (ForInStep.yield ()):Sem (ForInStep Unit))).run P w= .ok () w:=by
    intro k
    induction k with
    |zero=>intro x j _ _;rfl
    |succ k ih=>
     intro x j hx hcx';cases x with
     |nil=>simp at hx
     |cons x0 xs=>
      have gx:=bq.get agz hcx' 0 (by simp);simp only[mj,aN,List.getElem_cons_zero]at gx;have lenx:((cs.drop (j*t'.size)).take t'.size).length=t'.size:=gx.size;have Ma:t'.size≠0:=by simpa using aCo
      have aG1:j*t'.size+t'.size<=cs.length:=by simp only[bZ,cv]at lenx;omega
      obtain⟨ux,h1,o1⟩:=vP (w:=w) I7 re bx (cs:=cs) (off:=j*t'.size) aG1;have h3:=nU em n e t' uq d aq ux x0 ⟨_,gx,o1⟩;have nx:bq (cG E t') (cs.drop ((j+1)*t'.size)) xs:=by have:=bq.drop agz 1 hcx';rw[fU]at this;simpa[eH]using this
      have:=ih xs (j+1) (by simpa using hx) nx;rw[List.range'_succ,List.forIn_cons];simp only[cg,run_sizeOf hi,hsz',h1,h3,bE,dK];exact this
   exact(bK (λr:Result Unit=>r.andThen λ_ w'=>Sem.run P (pure ()) w') (key m x 0 aG5 (by simpa using aGQ))).trans rfl
  ·rename_i t0 _ _ fs hT;simp only[al,bP]at h;obtain⟨nw,aBY⟩:=h;have I7:t0.agg=aO:=by cases hl:fs.toList <;> rw[hl]at aBY <;> cases t0 <;> first | rfl | (simp[HY]at aBY;done)
   rw[I7]at hv;have e1:v= .agg cs.toArray:=hv;subst e1
   have key:∀(fl:List Field) (t:Ty) (off:Nat),HY P (ra P n) fl t off=aO->∀(x:t.den),cG E t (cs.drop off) x->
     (forIn fl () λf __s=>(do
      if f.name≠ "_" then
       let __do_lift <-part f.type cs.toArray f.offset
       Instr.checkKey em d f.type __do_lift
       pure (ForInStep.yield ())
      else pure (ForInStep.yield ()):Sem (ForInStep Unit))).run P w= .ok () w:=by
    intro fl
    induction fl with
    |nil=>intro t off _ x _;rfl
    |cons f fl ih=>
     intro t off hc x hx;cases t <;> first | (simp[HY]at hc;done) | skip
     rename_i ta tb;simp only[HY,al,bP,dw,gz]at hc;obtain⟨⟨⟨⟨⟨⟨aHb,ayb⟩,hz⟩,re⟩,I7⟩,uq⟩,ate⟩:=hc;simp only[cG]at hx;obtain⟨xa,xb,ex,aFc,aHw⟩:=hx;have bx:ta.agg=aV->ta.size=1:=vS;have lx:xa.length=ta.size:=aFc.size;have sx1:(cs.drop off).take ta.size=xa:=by rw[ex];exact ke lx
     have sx2:cs.drop (off+ta.size)=xb:=by rw[<-fU,ex];exact ka lx
     have sx3:off+ta.size<=cs.length:=by have:=bK ae ex;simp only[cv,ak]at this;omega
     obtain⟨ux,h1,o1⟩:=vP (w:=w) I7 re bx (cs:=cs) (off:=off) sx3;rw[sx1]at o1;have h3:=nU em n f.type ta uq d aq ux x.1 ⟨_,aFc,o1⟩;have h4:=ih tb (off+ta.size) ate x.2 (by rw[sx2];exact aHw);rw[List.forIn_cons];simp only[ne_eq,aHb,not_false_eq_true,cZ,cg,ayb,h1,h3,bE,dK];exact h4
   have:=key fs.toList t0 0 aBY x (by simpa using hx);simp only[Instr.checkKey,cg,run_underlying hT,bE,Array.forIn_toList]at this ⊢;exact(bK (λr:Result Unit=>r.andThen λ_ w'=>Sem.run P (pure ()) w') this).trans rfl
  ·cases h
theorem Jg{K:TypeId}{kt vt:Ty}(hK:ra P depth K kt=aO){v:Value}{x:kt.den}(hx:A9 E kt v x)(hE:E.w=w):∀(es:List fO) (l:List (kt.den×vt.den)) (i:Nat),Alike (BT E kt vt) es l->
  ∃r,(Instr.findAsking K v es i).run P w= .ok r w/\match r with | none=>iU kt x l=aH | some (j,u)=>∃n e,iU kt x l=au n/\j=i+n/\es[n]? =au e/\u=e.val
 |[],[],i,_=>⟨aH,by simp[Instr.findAsking],rfl⟩
 |e::es,p::l,i,⟨he,hr⟩=>by
  have hx':=hx;obtain⟨c1,r1,o1⟩:=hx';obtain⟨c2,r2,o2⟩:=he.1;have heq:(Op.equal K v e.key).run P w= .ok (kt.beq x p.1) w:=uo E hE depth K kt hK 10000 eR c1 c2 x p.1 v e.key r1 r2 o1 o2;cases hb:kt.beq x p.1 with
  |true=>
   rw[hb]at heq;refine⟨au (i,e.val),by simp[Instr.findAsking,heq],0,e,by simp[iU,hb],rfl,rfl,rfl⟩
  |false=>
   rw[hb]at heq;obtain⟨r,h1,h2⟩:=Jg hK hx hE es l (i+1) hr;refine⟨r,by simp[Instr.findAsking,heq,h1],?_⟩;cases r with
   |none=>simp only at h2 ⊢;simp[iU,hb,h2]
   |some u=>
    obtain⟨j,u⟩:=u;obtain⟨n,e',g1,g2,g3,g4⟩:=h2;exact⟨n+1,e',by simp[iU,hb,g1],aq,by simpa using g3,g4⟩
 |[],_::_,_,h=>h.elim
 |_::_,[],_,h=>h.elim
theorem Yd{d:TypeDesc}{kt vt:Ty}{v:Value}{x:kt.den}(hd:∀u y,A9 E kt u y->Instr.sameNow d v u=au (kt.beq x y)):∀(es:List fO) (l:List (kt.den×vt.den)) (i:Nat),Alike (BT E kt vt) es l->
  ∃r,Instr.findNow d v es i=au r/\match r with | none=>iU kt x l=aH | some (j,u)=>∃n e,iU kt x l=au n/\j=i+n/\es[n]? =au e/\u=e.val
 |[],[],i,_=>⟨aH,rfl,rfl⟩
 |e::es,p::l,i,⟨he,hr⟩=>by
  have h0:=hd e.key p.1 he.1;cases hb:kt.beq x p.1 with
  |true=>
   rw[hb]at h0;exact⟨au (i,e.val),by simp[Instr.findNow,h0],0,e,by simp[iU,hb],rfl,rfl,rfl⟩
  |false=>
   rw[hb]at h0;obtain⟨r,h1,h2⟩:=Yd hd es l (i+1) hr;refine⟨r,by simp[Instr.findNow,h0,h1],?_⟩;cases r with
   |none=>simp only at h2 ⊢;simp[iU,hb,h2]
   |some u=>
    obtain⟨j,u⟩:=u;obtain⟨n,e',g1,g2,g3,g4⟩:=h2;exact⟨n+1,e',by simp[iU,hb,g1],aq,by simpa using g3,g4⟩
 |[],_::_,_,h=>h.elim
 |_::_,[],_,h=>h.elim
theorem H3{K:TypeId}{kt vt:Ty}(hK:ra P depth K kt=aO){v:Value}{x:kt.den}(hx:A9 E kt v x)(hE:E.w=w){es:List fO}{l:List (kt.den×vt.den)}(h:Alike (BT E kt vt) es l):
  ∃r,(Instr.findKey K v es).run P w= .ok r w/\match r with | none=>iU kt x l=aH | some (j,u)=>∃e,iU kt x l=au j/\es[j]? =au e/\u=e.val:=by
 have fin:∀r:Option (Nat×Value),(match r with | none=>iU kt x l=aH | some (j,u)=>∃n e,iU kt x l=au n/\j=0+n/\es[n]? =au e/\u=e.val)->match r with | none=>iU kt x l=aH | some (j,u)=>∃e,iU kt x l=au j/\es[j]? =au e/\u=e.val:=by
  intro r hr;cases r with
  |none=>exact hr
  |some u=>
   obtain⟨j,u⟩:=u;obtain⟨n,e,g1,g2,g3,g4⟩:=hr;obtain rfl:j=n:=aq;exact⟨e,g1,g3,g4⟩
 have scalar:∀d,P.underlying K=au d->(∀u y,A9 E kt u y->Instr.sameNow d v u=au (kt.beq x y))->∃r,(Instr.findKey K v es).run P w= .ok r w/\match r with | none=>iU kt x l=aH | some (j,u)=>∃e,iU kt x l=au j/\es[j]? =au e/\u=e.val:=by intro d hd hs;obtain⟨r,h1,h2⟩:=Yd hs es l 0 h;exact⟨r,by simp[Instr.findKey,run_underlying hd,h1],fin r h2⟩
 have agg:∀d,P.underlying K=au d->(∀u y,A9 E kt u y->Instr.sameNow d v u=aH)->∃r,(Instr.findKey K v es).run P w= .ok r w/\match r with | none=>iU kt x l=aH | some (j,u)=>∃e,iU kt x l=au j/\es[j]? =au e/\u=e.val:=by
  intro d hd hs;cases es with
  |nil=>
   cases l with
   |nil=>exact⟨aH,by simp[Instr.findKey,run_underlying hd,Instr.findNow],rfl⟩
   |cons _ _=>exact h.elim
  |cons e es=>
   cases l with
   |nil=>exact h.elim
   |cons p l=>
    have hn:Instr.findNow d v (e::es) 0=aH:=by simp[Instr.findNow,hs e.key p.1 h.1.1]
    obtain⟨r,h1,h2⟩:=Jg (w:=w) (vt:=vt) hK hx hE (e::es) (p::l) 0 h;exact⟨r,by simp[Instr.findKey,run_underlying hd,hn,h1],fin r h2⟩
 have hK0:=hK;unfold depth at hK0;simp only[ra]at hK0;obtain⟨cx,rx,ox⟩:=hx;split at hK0
 ·rename_i k k' hT;refine scalar _ hT λu y ⟨cy,ry,oy⟩=> ?_
  simp only[cG]at rx ry;have e1:cx=[v]:=ox;have e2:cy=[u]:=oy;rw[rx]at e1;rw[ry]at e2;simp only[cD,ea]at e1 e2;subst e1 e2;simp[Instr.sameNow,Ty.beq]
 ·rename_i hT;refine scalar _ hT λu y ⟨cy,ry,oy⟩=> ?_
  simp only[cG]at rx ry;have e1:cx=[v]:=ox;have e2:cy=[u]:=oy;rw[rx]at e1;rw[ry]at e2;simp only[cD,ea]at e1 e2;subst e1 e2;simp[Instr.sameNow,Ty.beq]
 ·rename_i hT;refine scalar _ hT λu y ⟨cy,ry,oy⟩=> ?_
  simp only[cG]at rx ry;have e1:cx=[v]:=ox;have e2:cy=[u]:=oy;rw[rx]at e1;rw[ry]at e2;simp only[cD,ea]at e1 e2;subst e1 e2;have hs:∀a b:ByteArray,(a==b)=(a.toList==b.toList):=λa b=>by
   by_cases anP:a=b
   ·subst anP;rw[(Go.MapKept.bytes_beq a a).2 rfl];simp
   ·have h1:(a==b)=aV:=by
     cases h:(a==b) with
     |false=>rfl
     |true=>exact absurd ((Go.MapKept.bytes_beq a b).1 h) anP
    have h2:(a.toList==b.toList)=aV:=by
     cases h:(a.toList==b.toList) with
     |false=>rfl
     |true=>exact absurd (beq_eq .str a b rfl h) anP
    rw[h1,h2]
  simp[Instr.sameNow,Ty.beq,hs]
 ·rename_i U t' hT;exact agg _ hT λu y _=>by simp[Instr.sameNow]
 ·rename_i m e m' t' hT;exact agg _ hT λu y _=>by simp[Instr.sameNow]
 ·rename_i t0 _ _ fs hT;exact agg _ hT λu y _=>by simp[Instr.sameNow]
 ·cases hK0
end
section
variable {α β:Type} {R:α->β->Prop}
theorem Alike.get:∀ {xs:List α} {ys:List β} {i:Nat} {x:α},Alike R xs ys->xs[i]? =au x->∃y,ys[i]? =au y/\R x y
 |[],_,_,_,_,h=>by simp at h
 |_::_,[],_,_,h,_=>h.elim
 |x::xs,y::ys,0,z,⟨h1,_⟩,h=>by simp at h;subst h;exact⟨y,rfl,h1⟩
 |x::xs,y::ys,i+1,z,⟨_,h2⟩,h=>by simp at h;simpa using Alike.get h2 h
theorem Alike.set{x:α}{y:β}(hx:R x y):∀ {xs:List α} {ys:List β} (i:Nat),Alike R xs ys->Alike R (xs.set i x) (ys.set i y)
 |[],[],_,_=>trivial
 |[],_::_,_,h=>h.elim
 |_::_,[],_,h=>h.elim
 |_::_,_::_,0,⟨_,h2⟩=>⟨hx,h2⟩
 |_::_,_::_,i+1,⟨h1,h2⟩=>⟨h1,Alike.set hx i h2⟩
theorem Alike.push{x:α}{y:β}(hx:R x y):∀ {xs:List α} {ys:List β},Alike R xs ys->Alike R (xs++ [x]) (ys++ [y])
 |[],[],_=>⟨hx,trivial⟩
 |[],_::_,h=>h.elim
 |_::_,[],h=>h.elim
 |_::_,_::_,⟨h1,h2⟩=>⟨h1,Alike.push hx h2⟩
theorem Alike.erase:∀ {xs:List α} {ys:List β} (i:Nat),Alike R xs ys->Alike R (xs.eraseIdx i) (ys.eraseIdx i)
 |[],[],_,_=>by simp[Alike]
 |[],_::_,_,h=>h.elim
 |_::_,[],_,h=>h.elim
 |_::_,_::_,0,⟨_,h2⟩=>h2
 |_::_,_::_,i+1,⟨h1,h2⟩=>⟨h1,Alike.erase i h2⟩
end
theorem Kl{α:Type}{f:α->α->Bool}(hf:∀x,f x x=aO):∀xs:List α,mB f xs xs=aO
 |[]=>rfl
 |x::xs=>by simp[mB,hf x,Kl hf xs]
theorem beq_refl:∀(t:Ty) (x:t.den),t.comp=aO->t.beq x x=aO
 | .int _,x,_=>by simp[Ty.beq]
 | .bool,x,_=>by simp[Ty.beq]
 | .str,x,_=>by simp[Ty.beq]
 | .slice _,_,h=>by simp[Ty.comp]at h
 | .fX _,_,h | .nL _,_,h=>by simp[Ty.comp]at h
 | .gR t,x,_=> @eC _ ((Ty.gR t).aqR x x) rfl
 | .unit,_,_=>rfl
 | .pair a b,x,h=>by simp only[Ty.comp,al]at h;simp only[Ty.beq,beq_refl a _ h.1,beq_refl b _ h.2,Bool.and_self]
 | .arr _ t,x,h=>by simp only[Ty.comp]at h;exact Kl (λy=>beq_refl t y h) x
section
variable {β:Type} {kt:Ty}
theorem xY{x:kt.den}:cE kt x ([]:List (kt.den×β))=aH:=rfl
theorem eE{x:kt.den}{p:kt.den×β}{l:List (kt.den×β)}:cE kt x (p::l)=if kt.beq x p.1=aO then au p.2 else cE kt x l:=by
 unfold cE;cases h:kt.beq x p.1 with
 |true=>simp[iU,h]
 |false=>
  simp only[iU,h];cases iU kt x l <;> simp
theorem M9{x:kt.den}{v:β}:eM kt x v []=[(x,v)]:=rfl
theorem yN{x:kt.den}{v:β}{p:kt.den×β}{l:List (kt.den×β)}:eM kt x v (p::l)=if kt.beq x p.1=aO then(x,v)::l else p::eM kt x v l:=by
 unfold eM;cases h:kt.beq x p.1 with
 |true=>simp[iU,h]
 |false=>
  simp only[iU,h];cases iU kt x l <;> simp
theorem aoz{x:kt.den}:lK kt x ([]:List (kt.den×β))=[]:=rfl
theorem Im{x:kt.den}{p:kt.den×β}{l:List (kt.den×β)}:lK kt x (p::l)=if kt.beq x p.1=aO then l else p::lK kt x l:=by
 unfold lK;cases h:kt.beq x p.1 with
 |true=>simp[iU,h]
 |false=>
  simp only[iU,h];cases iU kt x l <;> simp
theorem Ge{x:kt.den}{v:β}:∀l:List (kt.den×β),(eM kt x v l).Perm ((x,v)::lK kt x l)
 |[]=>lB _
 |p::l=>by
  rw[yN,Im];split
  ·exact lB _
  ·exact((Ge l).cons p).trans (List.Perm.swap _ _ _)
theorem sC(hc:kt.comp=aO){x:kt.den}:∀ {l:List (kt.den×β)},(l.map (·.1)).Nodup->lK kt x l=l.filter λp=> !kt.beq x p.1
 |[],_=>rfl
 |p::l,hn=>by
  rw[bn,df]at hn;rw[Im,lC];by_cases h:kt.beq x p.1=aO
  ·rw[if_pos h];simp only[h,bR,cd,cK];have hx:=beq_eq kt _ _ hc h;exact(jl.2 λq hq=>by
    simp only[bP];rw[Bool.eq_false_iff];intro hb;have:=beq_eq kt _ _ hc hb;exact hn.1 (by rw[<-hx,this];exact cr.2 ⟨q,hq,rfl⟩)).symm
  ·have h':kt.beq x p.1=aV:=by simpa using h
   rw[if_neg h];simp only[h',dA,cZ];rw[sC hc hn.2]
theorem kf(hc:kt.comp=aO){x:kt.den}{v:β}:∀ {l:List (kt.den×β)},(l.map (·.1)).Nodup->(cE kt x l=au v↔(x,v)∈l)
 |[],_=>by simp[xY]
 |p::l,hn=>by
  rw[bn,df]at hn;rw[eE,bA];by_cases h:kt.beq x p.1=aO
  ·rw[if_pos h];have hx:=beq_eq kt _ _ hc h;constructor
   ·intro e;left;rw[hx,<-aQ e]
   ·rintro(e | e)
    ·rw[<-e]
    ·exact absurd (cr.2 ⟨_,e,rfl⟩) (by rw[<-hx]at hn;exact hn.1)
  ·rw[if_neg h,kf hc hn.2];constructor
   ·exact .inr
   ·rintro(e | e)
    ·exact absurd (by rw[<-e];exact beq_refl kt x hc) h
    ·exact e
theorem SP(hc:kt.comp=aO){x:kt.den}{l l':List (kt.den×β)}(hn:(l.map (·.1)).Nodup)(hp:l'.Perm l):cE kt x l'=cE kt x l:=by apply Option.ext;intro v;rw[kf hc ((hp.map _).nodup_iff.2 hn),kf hc hn,hp.mem_iff]
theorem SO(hc:kt.comp=aO){x:kt.den}{l l':List (kt.den×β)}(hn:(l.map (·.1)).Nodup)(hp:l'.Perm l):(lK kt x l').Perm (lK kt x l):=by rw[sC hc ((hp.map _).nodup_iff.2 hn),sC hc hn];exact hp.filter _
theorem aiy(hc:kt.comp=aO){x:kt.den}{v:β}{l l':List (kt.den×β)}(hn:(l.map (·.1)).Nodup)(hp:l'.Perm l):(eM kt x v l').Perm (eM kt x v l):=
 (Ge l').trans (((SO hc hn hp).cons _).trans (Ge l).symm)
theorem EI(hc:kt.comp=aO){x:kt.den}{l:List (kt.den×β)}(hn:(l.map (·.1)).Nodup):((lK kt x l).map (·.1)).Nodup:=by rw[sC hc hn];exact hn.sublist (List.filter_sublist.map _)
theorem O4(hc:kt.comp=aO){x:kt.den}{v:β}{l:List (kt.den×β)}(hn:(l.map (·.1)).Nodup):((eM kt x v l).map (·.1)).Nodup:=by rw[((Ge l).map _).nodup_iff,bn,df];refine⟨λh=> ?_,EI hc hn⟩;obtain⟨p,hp,he⟩:=cr.1 h;rw[sC hc hn,eo]at hp;have:=hp.2;have he:p.1=x:=he;rw[he,beq_refl kt x hc]at this;cases this
end
theorem IK{E:Env}:∀(v:aF) (t:Ty) (x:t.den) (cs:List Value),V E v cs->(pR t v).eval=au x->cG E t cs x/\v.agg=t.agg/\v.eJ=aO
 | .d t' x',t,x,cs,hv,h=>by
  have h':(Out.opt (sh t' t x')).eval=au x:=by cases t <;> simpa only[pR]using h
  obtain⟨rfl,h'⟩:=jb (jd.1 h');simp only at h';subst h';simp only[V]at hv;exact⟨hv,rfl,rfl⟩
 | .dd,.slice t,x,cs,hv,h=>by simp only[pR,ay]at h;subst h;simp only[V]at hv;simp only[cG];exact⟨⟨aH,0,[],by simpa using hv,by simp,by simp,λi v hh=>by simp at hh,rfl⟩,rfl,rfl⟩
 | .pr a b,.pair ta tb,x,cs,hv,h=>by simp only[pR]at h;obtain⟨x1,h1,h2⟩:=aw.1 h;obtain⟨x2,h3,h4⟩:=aw.1 h2;obtain rfl:=ay.1 h4;simp only[V]at hv;obtain⟨ca,cb,rfl,ha,hb⟩:=hv;simp only[cG];exact⟨⟨ca,cb,rfl,(IK a ta x1 ca ha h1).1,(IK b tb x2 cb hb h3).1⟩,rfl,rfl⟩
 | .dd,.int _,_,_,_,h | .dd,.bool,_,_,_,h | .dd,.str,_,_,_,h | .dd,.unit,_,_,_,h | .dd,.pair _ _,_,_,_,h | .dd,.arr _ _,_,_,_,h=>by simp only[pR,av]at h
 | .pr _ _,.int _,_,_,_,h | .pr _ _,.bool,_,_,_,h | .pr _ _,.str,_,_,_,h | .pr _ _,.unit,_,_,_,h | .pr _ _,.slice _,_,_,_,h | .pr _ _,.arr _ _,_,_,_,h=>by simp only[pR,av]at h
 | .undef,t,_,_,_,h | .gone,t,_,_,_,h | .jW,t,_,_,_,h | .vB,t,_,_,_,h | .yl ..,t,_,_,_,h | .AL,t,_,_,_,h | .ptr ..,t,_,_,_,h | .eG ..,t,_,_,_,h | .cM ..,t,_,_,_,h | .fn ..,t,_,_,_,h
 | .cons ..,t,_,_,_,h | .nil,t,_,_,_,h | .vec ..,t,_,_,_,h | .sb _,t,_,_,_,h | .bx ..,t,_,_,_,h | .dM ..,t,_,_,_,h | .mp ..,t,_,_,_,h | .qa ..,t,_,_,_,h | .uN ..,t,_,_,_,h=>by cases t <;> simp only[pR,av]at h
theorem Wm{v:aF}{t:Ty}{x:t.den}(h:(pR t v).eval=au x):v.eJ=aO:=by cases v <;> first | rfl | (cases t <;> simp only[pR,av]at h)
theorem CK{E:Env}{v:aF}{y:Value}(hv:VS E v y){t:Ty}{x:t.den}(h:(pR t v).eval=au x):A9 E t y x:=by obtain⟨cs,h1,h2⟩:=hv.eJ (Wm h);obtain⟨h3,h4,_⟩:=IK v t x cs h1 h;exact⟨cs,h3,by rw[<-h4];exact h2⟩
theorem zT{P:aL}{T K V':TypeId}{kt vt:Ty}(h:mapOf P T=au (K,V',kt,vt)):P.underlying T=au (.map K V')/\ra P depth K kt=aO/\ab2 P V' (.d vt vt.zero)=aO:=by
 unfold mapOf at h;split at h
 ·rename_i K0 V0 hT;split at h
  ·split at h
   ·rename_i hc;simp only[az,cF]at h;obtain⟨rfl,rfl,rfl,rfl⟩:=h;rw[al]at hc;exact⟨hT,hc.1,hc.2⟩
   ·cases h
  ·cases h
 ·cases h
theorem Oe{k v k' v':Ty}{l:List (k.den×v.den)}{l':List (k'.den×v'.den)}(h:ahf k v k' v' l=au l'):∃(e1:k=k') (e2:v=v'),(e1▸e2▸l)=l':=by
 unfold ahf at h;split at h
 ·rename_i e;exact⟨e.1,e.2,by simpa using h⟩
 ·cases h
section
variable {P:aL} {C:Ctx} {g:Nat->lA} {β:Id->Option Pl} {s:AS} {a:Act} {w:bV} {o:Oper}
theorem xo(h:Inv C g β s a w){id:Id}{ver:Nat}{kt vt:Ty}{l:List (kt.den×vt.den)}(ho:(s.pQ id ver kt vt).eval=au l){y:Value}(hv:VS (s.env w g β) (.dM id ver) y):
  ∃fr pl es clock,s.bS id=au (.obj ver fr (.mp kt vt l))/\β id=au pl/\y= .map (au pl.b)/\w.heap[pl.b]? =au (.map es clock)/\g pl.b= .own (.id id) 0/\YY (s.env w g β) kt vt es.toList l/\nN es.toList clock/\(l.map (·.1)).Nodup:=by
 unfold AS.pQ at ho;split at ho
 ·rename_i v fr k' v' l' j6;obtain⟨atk,aCa⟩:=aI.1 ho;have atk:v=ver:=by simpa using atk
  obtain⟨rfl,rfl,rfl⟩:=Oe (jd.1 aCa);subst atk;have cI:=dO j6;obtain⟨pl,es,clock,h1,h2,h3,h4⟩:=h.bM id v fr _ cI;have hs:=hv.single rfl rfl;simp only[V]at hs;obtain⟨b,hb,_,hc⟩:=hs;obtain⟨pl',h5,h6⟩:=hc ⟨fr,_,cI⟩;have h1:β id=au pl:=h1;have h5:β id=au pl':=h5;rw[h1]at h5;obtain rfl:pl=pl':=by simpa using h5
  refine⟨fr,pl,es,clock,cI,h1,?_,h2,h3,h4.1.1,h4.2,h4.1.2⟩;have hb:y= .map (au b):=by simpa using hb
  rw[hb,h6]
 ·simp only[av]at ho
theorem aaz(h:Inv C g β s a w){T:TypeId}(de:o.op= .makeMap T aH){s':AS}(he:(EF P s o.dst T).eval=au s'):fG P o a w (gW C s'):=by
 unfold EF at he;split at he
 ·rename_i K V' kt vt q hm hd;obtain⟨hq,he⟩:=aI.1 he;obtain rfl:=ay.1 he;have ht:=Trans.alloc w g (.map #[] 0) (.own (.id (.new q 0)) 0);obtain⟨h1,h2⟩:=h.Mo hq (c:= .mp kt vt []) (p:=au ⟨w.heap.size,0⟩) ht (λb hb=>⟨pW w _ hb,fD _ _ _ aq⟩) (λ_=>
   ⟨⟨w.heap.size,0⟩,#[],0,jP _ _ _,rV w _,fI _ _ _,⟨⟨[],trivial,lB _⟩,ja⟩,nN.nil _⟩)
  refine .inl ⟨.map (au w.heap.size),w.alloc (.map #[] 0),?_,_,_,h1.put o.dst (v:= .dM (.new q 0) 0) ⟨[.map (au w.heap.size)],?_,rfl⟩⟩
  ·refine dU (f:=Instr.makeMap T aH) (by simp only[execOp,de];rfl) ?_
   simp[Instr.makeMap,run_newObj_alloc]
  ·simp only[V];exact⟨_,rfl,pa hq _ _ _ _,λ_=>⟨_,jP _ _ _,rfl⟩⟩
 ·simp only[av]at he
theorem A9.vs{E:Env}{t:Ty}{v:Value}{x:t.den}(h:A9 E t v x):VS E (.d t x) v:=by obtain⟨cs,h1,h2⟩:=h;exact⟨cs,by simpa only[V]using h1,h2⟩
theorem aeo(h:Inv C g β s a w){T:TypeId}{x i:bI}{ok:Bool}(de:o.op= .lookup T x i ok){v:aF}(he:(Cp P s T (s.ev x) (s.ev i) ok).eval=au v):fG P o a w (gW C (s.put o.dst v)):=by
 unfold Cp at he;split at he
 ·rename_i K V' kt vt id ver hm hx;obtain⟨l,h1,he⟩:=aw.1 he;obtain⟨k,h2,he⟩:=aw.1 he;obtain rfl:=ay.1 he;obtain⟨hT,hK,hz⟩:=zT hm;have R6:=h.ev x;rw[hx]at R6;obtain⟨fr,pl,es,clock,g1,g2,g3,g4,g5,g6,g7,gn⟩:=xo h h1 R6;have GY:=yA depth K kt hK;obtain⟨l0,g6,gp⟩:=g6;rw[<-SP GY gn gp];clear gn h1;generalize l0=l at g6;have hk:=CK (h.ev i) h2;have agu:=nU (P:=P) (w:=w) es.isEmpty depth K kt hK 10000 eR _ _ hk;obtain⟨r,hf,hr⟩:=H3 (P:=P) (w:=w) hK hk rfl g6;obtain⟨iz,zv,z1,z2,z3,z4⟩:=tY hz (s.env w g β);have anY:A9 (s.env w g β) vt zv vt.zero:=⟨_,by simpa only[V]using z3,z4⟩;have hzero:(zeroValue V').run P w= .ok zv w:=by simp[zeroValue,typeInfo,z1,z2]
  obtain⟨val,pb,yH⟩:∃val:Value×Bool,(Instr.lookup T (a.eval x) (a.eval i) ok).run P w= .ok (if ok then .tuple #[val.1,.bool val.2] else val.1) w/\A9 (s.env w g β) vt val.1 ((cE kt k l).getD vt.zero)/\val.2=(cE kt k l).isSome:=by
   cases r with
   |none=>
    simp only at hr;have hg:cE kt k l=aH:=by simp[cE,hr]
    refine⟨(zv,aV),?_,by rw[hg];exact anY,by rw[hg];rfl⟩;simp[Instr.lookup,run_underlying hT,g3,Go.MapKept.run_getObj_map g4,agu,hf,hzero]
   |some u=>
    obtain⟨j,u⟩:=u;obtain⟨e,m1,m2,rfl⟩:=hr;obtain⟨p,m3,m4⟩:=g6.get m2;have hg:cE kt k l=au p.2:=by simp[cE,m1,m3]
    refine⟨(e.val,aO),?_,by rw[hg];exact m4.2,by rw[hg];rfl⟩;simp[Instr.lookup,run_underlying hT,g3,Go.MapKept.run_getObj_map g4,agu,hf]
  refine h.value (x:=if ok then .tuple #[val.1,.bool val.2] else val.1) ?_ (dU (f:=Instr.lookup T (a.eval x) (a.eval i) ok) (by simp only[execOp,de]) pb)
  unfold aAL;cases ok with
  |true=>
   obtain⟨cs,c1,c2⟩:=yH.1;refine⟨[val.1,.bool val.2],rfl,?_⟩;simp only[VC];refine⟨_,_,cs,rfl,by simpa only[V]using c1,c2,_,_,[.bool val.2],rfl,?_,rfl,rfl⟩;simp only[V,cG,yH.2]
  |false=>exact yH.1.vs
 ·simp only[av]at he
theorem Inv.avU(h:Inv C g β s a w){id:Id}{ver:Nat}{fr:Bool}{kt vt:Ty}{l l':List (kt.den×vt.den)}{pl:Pl}{es es':Array fO}{clock clock':Nat}(cI:s.bS id=au (.obj ver fr (.mp kt vt l)))(hp:β id=au pl)
  (hb:w.heap[pl.b]? =au (.map es clock)) (hg:g pl.b= .own (.id id) 0) (hr:YY (s.env w g β) kt vt es'.toList l') (aET:(l'.map (·.1)).Nodup) (aEu:nN es'.toList clock') (aCj:s.sU id=aO):
  Inv C g β (s.aY id (.obj ver aV (.mp kt vt l'))) a {w with heap:=w.heap.setIfInBounds pl.b (.map es' clock')}:=by
 have iJ:pl.b < w.heap.size:=(bN.1 hb).1;have hother:∀b',b'≠pl.b->({w with heap:=w.heap.setIfInBounds pl.b (.map es' clock')}:bV).heap[b']? =w.heap[b']? :=λb' gV=>by
  show(w.heap.setIfInBounds pl.b _)[b']? =_
  rw[dS,if_neg (λe=>gV e.symm)]
 have ht:Trans w {w with heap:=w.heap.setIfInBounds pl.b (.map es' clock')} g g:=by
  refine⟨rfl,rfl,⟨rfl,aC _⟩,by simp,λb' _=> ?_⟩;by_cases he:b'=pl.b
  ·subst he;rw[hg];exact⟨.inr ⟨id,0,rfl,aC _⟩,λ_ _ hh=>aq⟩
  ·rw[hother b' he];cases P4:g b' with
   |free=>exact⟨rfl,rfl⟩
   |own o' k=>cases o' with
    |ez=>exact⟨rfl,rfl⟩
    |id i'=>exact⟨.inr ⟨i',k,rfl,aC _⟩,λoff v _ hv=>by simpa only[eI,hother b' he]using hv⟩
 have hle:cP (s.env w g β) ((s.aY id (.obj ver aV (.mp kt vt l'))).env {w with heap:=w.heap.setIfInBounds pl.b (.map es' clock')} g β):=cP.aY cI (aC _) ht (λ_ _=>rfl) (λ_=>rfl);refine h.step (dh _ _ _) ht hle (iR.aY h.bM (by rw[cI];simp) hle (λ_ _=>rfl) (λi ver fr c pl2 hi R3 P5=>⟨hother _ (h.apart hg hi R3 P5),rfl⟩) ?_ (by obtain rfl:=zj cI aCj;exact Ko cI));refine⟨pl,es',clock',hp,?_,hg,⟨hr.mono hle.mem,aET⟩,aEu⟩;show(w.heap.setIfInBounds pl.b _)[pl.b]? =_
 rw[dS,if_pos rfl,if_pos iJ]
theorem aew(h:Inv C g β s a w){T:TypeId}{m k x:bI}(de:o.op= .mapUpdate T m k x){s':AS}(he:(Cv P s T (s.ev m) (s.ev k) (s.ev x)).eval=au s'):fG P o a w (gW C (s'.put o.dst .undef)):=by
 unfold Cv at he;split at he
 ·rename_i K V' kt vt id ver hm hx;obtain⟨l,h1,he⟩:=aw.1 he;obtain⟨kx,h2,he⟩:=aw.1 he;obtain⟨vx,h3,he⟩:=aw.1 he;obtain⟨aCj,he⟩:=aI.1 he;obtain rfl:=ay.1 he;obtain⟨hT,hK,_⟩:=zT hm;have R6:=h.ev m;rw[hx]at R6;obtain⟨fr,pl,es,clock,g1,g2,g3,g4,g5,g6,g7,gn⟩:=xo h h1 R6;obtain⟨l0,g6,gp⟩:=g6;have hk:=CK (h.ev k) h2;have hv:=CK (h.ev x) h3;have agu:=nU (P:=P) (w:=w) aV depth K kt hK 10000 eR _ _ hk;obtain⟨r,hf,hr⟩:=H3 (P:=P) (w:=w) hK hk rfl g6;have GY:=yA depth K kt hK
  have fin:∀(es':Array fO) (clock':Nat),(Instr.mapUpdate T (a.eval m) (a.eval k) (a.eval x)).run P w= .ok () {w with heap:=w.heap.setIfInBounds pl.b (.map es' clock')}->Alike (BT (s.env w g β) kt vt) es'.toList (eM kt kx vx l0)->nN es'.toList clock'->
    fG P o a w (gW C ((s.aY id (.obj ver aV (.mp kt vt (eM kt kx vx l)))).put o.dst .undef)):=λes' clock' pb as5 aEu=>
   .inr (.inl ⟨_,Xs (f:=Instr.mapUpdate T (a.eval m) (a.eval k) (a.eval x)) (by simp only[execOp,de]) pb,g,β,(h.avU g1 g2 g4 g5 ⟨_,as5,aiy GY gn gp⟩ (O4 GY gn) aEu aCj).put o.dst VS.undef⟩)
  cases r with
  |none=>
   simp only at hr;refine fin (es.push {key:=a.eval k,val:=a.eval x,born:=clock}) (clock+1) ?_ ?_ (by rw[Array.toList_push];exact g7.push rfl)
   ·simp[Instr.mapUpdate,run_underlying hT,g3,Go.MapKept.run_getObj_map g4,agu,hf,Go.MapKept.run_setObj_map _ g4]
   ·simp only[eM,hr,Array.toList_push];exact g6.push ⟨hk,hv⟩
  |some u=>
   obtain⟨j,u⟩:=u;obtain⟨e,m1,m2,rfl⟩:=hr;obtain⟨p,m3,m4⟩:=g6.get m2;have aGK:kt.beq kx p.1=aO:=by
    have:∀(l:List (kt.den×vt.den)) (j:Nat),iU kt kx l=au j->∀p,l[j]? =au p->kt.beq kx p.1=aO:=by
     intro l
     induction l with
     |nil=>intro j hj;simp[iU]at hj
     |cons q l ih=>
      intro j hj p hp;simp only[iU]at hj;cases hb:kt.beq kx q.1 with
      |true=>
       rw[hb]at hj;simp only[az]at hj;subst hj;simp at hp;subst hp;exact hb
      |false=>
       rw[hb]at hj;simp only[dq]at hj;obtain⟨j',hj',rfl⟩:=hj;exact ih j' hj' p (by simpa using hp)
    exact this l0 j m1 p m3
   have anX:=beq_eq kt kx p.1 GY aGK;have aG2:e.key=a.eval k:=A9.aBw GY (anX▸m4.1) hk;have m2':es[j]? =au e:=by simpa using m2
   refine fin (es.modify j λe=> {e with key:=a.eval k,val:=a.eval x}) clock ?_ ?_ (by rw[Array.toList_modify,Go.ChangeMaps.modify_eq_set _ _ _ _ m2];exact g7.set m2 rfl)
   ·simp[Instr.mapUpdate,run_underlying hT,g3,Go.MapKept.run_getObj_map g4,agu,hf,m2',aG2,apT GY hk,Go.MapKept.run_setObj_map _ g4]
   ·simp only[eM,m1,Array.toList_modify];rw[Go.ChangeMaps.modify_eq_set _ _ _ _ m2];exact Alike.set (R:=BT (s.env w g β) kt vt) ⟨hk,hv⟩ j g6
 ·simp only[av]at he
end
end Go.Ab
end
