/-
  Made short by a program of mine (wip/tools/mini.py).
-/
import Derived.WalkKit
import Derived.KernelRfl
import Derived.OrdersIn
import Derived.LoopNIn
import Derived.TacticsIn
import Derived.RangeFuncCalls
import Derived.RangeFuncLeaves
import Derived.RangeFuncRecord
import Derived.LaidEql
import Derived.MapKept
import Derived.ChangeMaps3
set_option linter.unusedVariables false
set_option linter.unusedSimpArgs false
set_option maxRecDepth 100000
set_option synthInstance.maxSize 5000
open Go renaming IntKind->kR,FuncId->fK,Operand->bK,Program->aM,World->bW,MapEntry->fN
open List renaming replicate->ai,set->gr,length->ag
open BitVec renaming ofInt->bj
open UInt8 renaming ofNat->fo
open Nat renaming beq->iG
open Go.Value renaming oneCell'->dv
open Go.World renaming cell?->eN
open Go.Sem renaming run_bind->cg,run_pure->dY
open Go.Result renaming andThen_ok->bH
open Go.Addr renaming add_lit->fv
open Go.Op renaming equalIn->df
open Option renaming some->ao,none->aJ
open Bool renaming true->aT,false->aR
noncomputable section
namespace Go.Ab
theorem gg:type_of% @Array.ext':= @Array.ext'
theorem rj:type_of% @Array.ext_getElem?:= @Array.ext_getElem?
theorem cQ:type_of% @Array.getD_eq_getD_getElem?:= @Array.getD_eq_getD_getElem?
theorem kr:type_of% @Array.getElem?_append:= @Array.getElem?_append
theorem fp:type_of% @Array.getElem?_eq_getElem:= @Array.getElem?_eq_getElem
theorem bO:type_of% @Array.getElem?_eq_some_iff:= @Array.getElem?_eq_some_iff
theorem gl:type_of% @Array.getElem?_modify:= @Array.getElem?_modify
theorem ek:type_of% @Array.getElem?_setIfInBounds:= @Array.getElem?_setIfInBounds
theorem iH:type_of% @Array.getElem?_toList:= @Array.getElem?_toList
theorem cR:type_of% @Array.length_toList:= @Array.length_toList
theorem bZ:type_of% @Array.toList_append:= @Array.toList_append
theorem iY:type_of% @BitVec.ofInt_natCast:= @BitVec.ofInt_natCast
theorem rk:type_of% @BitVec.toNat_ofInt:= @BitVec.toNat_ofInt
theorem ka:type_of% @BitVec.toNat_ofNat:= @BitVec.toNat_ofNat
theorem av:type_of% @Bool.and_eq_true:= @Bool.and_eq_true
theorem iS:type_of% @Bool.eq_false_or_eq_true:= @Bool.eq_false_or_eq_true
theorem ff:type_of% @Bool.false_and:= @Bool.false_and
theorem bR:type_of% @Bool.false_eq_true:= @Bool.false_eq_true
theorem cv:type_of% @Bool.not_eq_true':= @Bool.not_eq_true'
theorem eY:type_of% @Bool.not_false:= @Bool.not_false
theorem cG:type_of% @Bool.not_true:= @Bool.not_true
theorem ij:type_of% @Bool.or_eq_true:= @Bool.or_eq_true
theorem uP:type_of% @Bool.or_false:= @Bool.or_false
theorem cD:type_of% @Bool.true_and:= @Bool.true_and
theorem om:type_of% @Int.emod_emod_of_dvd:= @Int.emod_emod_of_dvd
theorem fi:type_of% @Int.emod_eq_of_lt:= @Int.emod_eq_of_lt
theorem kc:type_of% @Int.emod_lt_of_pos:= @Int.emod_lt_of_pos
theorem kF:type_of% @Int.emod_nonneg:= @Int.emod_nonneg
theorem fI:type_of% @Int.le_refl:= @Int.le_refl
theorem sS:type_of% @Int.mul_emod:= @Int.mul_emod
theorem pv:type_of% @Int.natCast_emod:= @Int.natCast_emod
theorem kG:type_of% @Int.natCast_mul:= @Int.natCast_mul
theorem gF:type_of% @Int.natCast_nonneg:= @Int.natCast_nonneg
theorem kH:type_of% @Int.natCast_pow:= @Int.natCast_pow
theorem fY:type_of% @Int.pow_succ:= @Int.pow_succ
theorem kQ:type_of% @Int.pow_zero:= @Int.pow_zero
theorem px:type_of% @Int.sub_zero:= @Int.sub_zero
theorem ke:type_of% @Int.tdiv_eq_ediv_of_nonneg:= @Int.tdiv_eq_ediv_of_nonneg
theorem gU:type_of% @Int.tmod_eq_emod_of_nonneg:= @Int.tmod_eq_emod_of_nonneg
theorem aa:type_of% @Int.toNat_natCast:= @Int.toNat_natCast
theorem bo:type_of% @Int.toNat_zero:= @Int.toNat_zero
theorem oo:type_of% @List.Perm.refl:= @List.Perm.refl
theorem iT:type_of% @List.all_cons:= @List.all_cons
theorem cS:type_of% @List.all_eq_true:= @List.all_eq_true
theorem fU:type_of% @List.any_cons:= @List.any_cons
theorem jl:type_of% @List.any_eq_false:= @List.any_eq_false
theorem kS:type_of% @List.any_nil:= @List.any_nil
theorem aO:type_of% @List.append_assoc:= @List.append_assoc
theorem bP:type_of% @List.append_nil:= @List.append_nil
theorem cz:type_of% @List.cons.injEq:= @List.cons.injEq
theorem jY:type_of% @List.drop_append:= @List.drop_append
theorem gq:type_of% @List.drop_drop:= @List.drop_drop
theorem aC:type_of% @List.drop_eq_getElem_cons:= @List.drop_eq_getElem_cons
theorem kI:type_of% @List.drop_left':= @List.drop_left'
theorem aU:type_of% @List.drop_length:= @List.drop_length
theorem fZ:type_of% @List.drop_of_length_le:= @List.drop_of_length_le
theorem sT:type_of% @List.drop_take:= @List.drop_take
theorem aQ:type_of% @List.drop_zero:= @List.drop_zero
theorem bu:type_of% @List.eq_nil_of_length_eq_zero:= @List.eq_nil_of_length_eq_zero
theorem py:type_of% @List.ext_getElem:= @List.ext_getElem
theorem kT:type_of% @List.ext_getElem?:= @List.ext_getElem?
theorem jt:type_of% @List.filter_eq_self:= @List.filter_eq_self
theorem dq:type_of% @List.flatMap_cons:= @List.flatMap_cons
theorem pz:type_of% @List.flatMap_nil:= @List.flatMap_nil
theorem jm:type_of% @List.flatten_cons:= @List.flatten_cons
theorem pA:type_of% @List.flatten_nil:= @List.flatten_nil
theorem aX:type_of% @List.foldl_cons:= @List.foldl_cons
theorem db:type_of% @List.foldl_nil:= @List.foldl_nil
theorem lV:type_of% @List.getD_cons_zero:= @List.getD_cons_zero
theorem aI:type_of% @List.getD_eq_getElem?_getD:= @List.getD_eq_getElem?_getD
theorem fq:type_of% @List.getElem?_append_left:= @List.getElem?_append_left
theorem lZ:type_of% @List.getElem?_cons_succ:= @List.getElem?_cons_succ
theorem fQ:type_of% @List.getElem?_cons_zero:= @List.getElem?_cons_zero
theorem fx:type_of% @List.getElem?_drop:= @List.getElem?_drop
theorem bQ:type_of% @List.getElem?_eq_getElem:= @List.getElem?_eq_getElem
theorem dP:type_of% @List.getElem?_eq_none:= @List.getElem?_eq_none
theorem dN:type_of% @List.getElem?_eq_some_iff:= @List.getElem?_eq_some_iff
theorem eJ:type_of% @List.getElem?_map:= @List.getElem?_map
theorem eF:type_of% @List.getElem?_set_ne:= @List.getElem?_set_ne
theorem c9:type_of% @List.getElem?_take:= @List.getElem?_take
theorem aV:type_of% @List.getElem_mem:= @List.getElem_mem
theorem ak:type_of% @List.length_append:= @List.length_append
theorem aH:type_of% @List.length_cons:= @List.length_cons
theorem dx:type_of% @List.length_drop:= @List.length_drop
theorem kU:type_of% @List.length_eraseIdx:= @List.length_eraseIdx
theorem cH:type_of% @List.length_map:= @List.length_map
theorem bB:type_of% @List.length_nil:= @List.length_nil
theorem dE:type_of% @List.length_replicate:= @List.length_replicate
theorem cT:type_of% @List.length_take:= @List.length_take
theorem hZ:type_of% @List.map_congr_left:= @List.map_congr_left
theorem cr:type_of% @List.map_cons:= @List.map_cons
theorem iU:type_of% @List.map_nil:= @List.map_nil
theorem bC:type_of% @List.mem_append:= @List.mem_append
theorem cj:type_of% @List.mem_cons:= @List.mem_cons
theorem aL:type_of% @List.mem_cons_of_mem:= @List.mem_cons_of_mem
theorem aK:type_of% @List.mem_cons_self:= @List.mem_cons_self
theorem nv:type_of% @List.mem_filter:= @List.mem_filter
theorem iL:type_of% @List.mem_flatMap:= @List.mem_flatMap
theorem ku:type_of% @List.mem_iff_getElem?:= @List.mem_iff_getElem?
theorem dO:type_of% @List.mem_map:= @List.mem_map
theorem c7:type_of% @List.mem_of_getElem?:= @List.mem_of_getElem?
theorem oq:type_of% @List.mem_of_mem_take:= @List.mem_of_mem_take
theorem rq:type_of% @List.mem_replicate:= @List.mem_replicate
theorem bw:type_of% @List.mem_singleton:= @List.mem_singleton
theorem aY:type_of% @List.nil_append:= @List.nil_append
theorem dm:type_of% @List.nodup_cons:= @List.nodup_cons
theorem gV:type_of% @List.nodup_nil:= @List.nodup_nil
theorem gm:type_of% @List.set_getElem_self:= @List.set_getElem_self
theorem dQ:type_of% @List.singleton_append:= @List.singleton_append
theorem gW:type_of% @List.size_toArray:= @List.size_toArray
theorem pB:type_of% @List.take_append:= @List.take_append
theorem dR:type_of% @List.take_append_drop:= @List.take_append_drop
theorem iZ:type_of% @List.take_append_of_le_length:= @List.take_append_of_le_length
theorem kJ:type_of% @List.take_left':= @List.take_left'
theorem cJ:type_of% @List.take_length:= @List.take_length
theorem bJ:type_of% @List.take_of_length_le:= @List.take_of_length_le
theorem l5:type_of% @List.take_take:= @List.take_take
theorem fg:type_of% @List.take_zero:= @List.take_zero
theorem fF:type_of% @Nat.add_assoc:= @Nat.add_assoc
theorem eM:type_of% @Nat.add_mul:= @Nat.add_mul
theorem rr:type_of% @Nat.add_sub_cancel:= @Nat.add_sub_cancel
theorem cX:type_of% @Nat.add_zero:= @Nat.add_zero
theorem fa:type_of% @Nat.eq_of_beq_eq_true:= @Nat.eq_of_beq_eq_true
theorem iM:type_of% @Nat.eq_zero_or_pos:= @Nat.eq_zero_or_pos
theorem dF:type_of% @Nat.le_of_ble_eq_true:= @Nat.le_of_ble_eq_true
theorem aF:type_of% @Nat.le_refl:= @Nat.le_refl
theorem kV:type_of% @Nat.le_trans:= @Nat.le_trans
theorem gv:type_of% @Nat.lt_irrefl:= @Nat.lt_irrefl
theorem pC:type_of% @Nat.lt_or_ge:= @Nat.lt_or_ge
theorem gC:type_of% @Nat.min_eq_left:= @Nat.min_eq_left
theorem jZ:type_of% @Nat.mod_eq_of_lt:= @Nat.mod_eq_of_lt
theorem pD:type_of% @Nat.mul_comm:= @Nat.mul_comm
theorem c8:type_of% @Nat.mul_le_mul_right:= @Nat.mul_le_mul_right
theorem kW:type_of% @Nat.mul_mod:= @Nat.mul_mod
theorem jG:type_of% @Nat.mul_one:= @Nat.mul_one
theorem ik:type_of% @Nat.one_mul:= @Nat.one_mul
theorem ot:type_of% @Nat.pow_add:= @Nat.pow_add
theorem ky:type_of% @Nat.sub_eq_zero_of_le:= @Nat.sub_eq_zero_of_le
theorem bg:type_of% @Nat.zero_add:= @Nat.zero_add
theorem aN:type_of% @Nat.zero_le:= @Nat.zero_le
theorem mN:type_of% @Nat.zero_mul:= @Nat.zero_mul
theorem dz:type_of% @Option.getD_some:= @Option.getD_some
theorem bA:type_of% @Option.isSome_iff_exists:= @Option.isSome_iff_exists
theorem ru:type_of% @Option.isSome_none:= @Option.isSome_none
theorem dw:type_of% @Option.map_eq_some_iff:= @Option.map_eq_some_iff
theorem eo:type_of% @Option.map_some:= @Option.map_some
theorem aP:type_of% @Option.some.inj:= @Option.some.inj
theorem az:type_of% @Option.some.injEq:= @Option.some.injEq
theorem cK:type_of% @Prod.mk.injEq:= @Prod.mk.injEq
theorem qj:type_of% @Quotient.exists_rep:= @Quotient.exists_rep
theorem j3:type_of% @Sum.getLeft?_inl:= @Sum.getLeft?_inl
theorem dg:type_of% @Sum.getRight?_inr:= @Sum.getRight?_inr
theorem l7:type_of% @Sum.isLeft_inl:= @Sum.isLeft_inl
theorem dS:type_of% @Sum.isLeft_inr:= @Sum.isLeft_inr
theorem kf:type_of% @and_self:= @and_self
theorem eG:type_of% @and_true:= @and_true
theorem gh:type_of% @beq_eq_false_iff_ne:= @beq_eq_false_iff_ne
theorem dB:type_of% @beq_iff_eq:= @beq_iff_eq
theorem bD:type_of% @congrArg:= @congrArg
theorem jq:type_of% @decide_eq_false:= @decide_eq_false
theorem gJ:type_of% @decide_eq_false_iff_not:= @decide_eq_false_iff_not
theorem me:type_of% @decide_eq_true:= @decide_eq_true
theorem aW:type_of% @decide_eq_true_eq:= @decide_eq_true_eq
theorem cV:type_of% @decide_true:= @decide_true
theorem AA:type_of% @dif_neg:= @dif_neg
theorem xJ:type_of% @dif_pos:= @dif_pos
theorem lh:type_of% @getElem!_pos:= @getElem!_pos
theorem cF:type_of% @if_false:= @if_false
theorem cY:type_of% @if_true:= @if_true
theorem Ae:type_of% @true_and:= @true_and
end Go.Ab
namespace Go.Ab
theorem eZ{p:Prop}(h:p:=by decide):p:=h
theorem au{p:Prop}(h:p:=by omega):p:=h
theorem cM{p:Prop}(h:p:=by kernel_rfl):p:=h
inductive Ty where
 |int (k:kR) | bool | str | slice (t:Ty) | unit | pair (a b:Ty) | arr (n:Nat) (t:Ty)
 |fS (t:Ty)
 |od (t:Ty)
 |gN (t:Ty)
 deriving DecidableEq,Inhabited
@[reducible] def Ty.den:Ty->Type
 | .int _=>Int
 | .bool=>Bool
 | .str=>ByteArray
 | .slice t=>List t.den
 | .unit=>Unit
 | .pair a b=>a.den×b.den
 | .arr _ t=>List t.den
 | .fS t=>Option (List t.den)
 | .od t=>Option t.den
 | .gN t=>Option (Nat×t.den)
def Ty.size:Ty->Nat
 | .unit=>0
 | .pair a b=>a.size+b.size
 | .arr n t=>n*t.size
 | .int _ | .bool | .str | .slice _ | .fS _ | .od _ | .gN _=>1
def Ty.agg:Ty->Bool
 | .unit | .pair _ _ | .arr _ _=>aT
 | .int _ | .bool | .str | .slice _ | .fS _ | .od _ | .gN _=>aR
def Ty.zero:(t:Ty)->t.den
 | .int _=>(0:Int)
 | .bool=>aR
 | .str=>ByteArray.empty
 | .slice _=> []
 | .unit=>()
 | .pair a b=>(a.zero,b.zero)
 | .arr n t=>ai n t.zero
 | .fS _=>aJ
 | .od _=>aJ
 | .gN _=>aJ
def Ty.comp:Ty->Bool
 | .slice _ | .fS _ | .od _=>aR
 | .pair a b=>a.comp && b.comp
 | .arr _ t=>t.comp
 | .int _ | .bool | .str | .unit | .gN _=>aT
def nb{α:Type}(f:α->α->Bool):List α->List α->Bool
 |[],[]=>aT
 |x::xs,y::ys=>f x y && nb f xs ys
 |_,_=>aR
def Ty.asn:(t:Ty)->(x y:t.den)->Decidable (x=y)
 | .int _,x,y=>inferInstanceAs (Decidable (@Eq Int x y))
 | .bool,x,y=>inferInstanceAs (Decidable (@Eq Bool x y))
 | .str,x,y=>inferInstanceAs (Decidable (@Eq ByteArray x y))
 | .slice t,x,y=> @instDecidableEqList t.den t.asn x y
 | .unit,_,_=>isTrue rfl
 | .pair a b,x,y=> @instDecidableEqProd a.den b.den a.asn b.asn x y
 | .arr _ t,x,y=> @instDecidableEqList t.den t.asn x y
 | .fS t,x,y=>letI:DecidableEq t.den:=t.asn;inferInstanceAs (Decidable (@Eq (Option (List t.den)) x y))
 | .od t,x,y=>letI:DecidableEq t.den:=t.asn;inferInstanceAs (Decidable (@Eq (Option t.den) x y))
 | .gN t,x,y=>letI:DecidableEq t.den:=t.asn;inferInstanceAs (Decidable (@Eq (Option (Nat×t.den)) x y))
def Ty.amS:Ty->Bool
 | .fS _=>aR
 | .slice t | .arr _ t | .od t | .gN t=>t.amS
 | .pair a b=>a.amS && b.amS
 | .int _ | .bool | .str | .unit=>aT
def Ty.beq:(t:Ty)->t.den->t.den->Bool
 | .int _,x,y=>(x:Int)==y
 | .bool,x,y=>(x:Bool)==y
 | .str,x,y=>(x:ByteArray).toList==(y:ByteArray).toList
 | .slice t,x,y=>nb t.beq x y
 | .unit,_,_=>aT
 | .pair a b,x,y=>a.beq x.1 y.1 && b.beq x.2 y.2
 | .arr _ t,x,y=>nb t.beq x y
 | .fS t,x,y=>nb t.beq (x.getD []) (y.getD [])
 | .od _,_,_=>aR
 | .gN t,x,y=> @decide (x=y) ((Ty.gN t).asn x y)
def s9(t t':Ty)(x:t.den):Option t'.den:=if h:t=t' then ao (h▸x) else aJ
def Xk:(a b:Ty)->Option (a.den->b.den)
 | .fS t,.slice t'=>if h:t=t' then ao λo=>cast (bD (λt:Ty=>List t.den) h) (o.getD []) else aJ
 | .slice t,.fS t'=>if h:t=t' then ao λl=>ao (cast (bD (λt:Ty=>List t.den) h) l) else aJ
 | .pair a b,.pair c d=>match Xk a c,Xk b d with
  |some f,ao k=>ao λx=>(f x.1,k x.2)
  |_,_=>aJ
 | .slice a,.slice b=>match Xk a b with
  |some f=>ao (List.map f)
  |none=>aJ
 |a,b=>if h:a=b then ao (cast (bD Ty.den h)) else aJ
def aFm(a b:Ty)(x:a.den):b.den:=match Xk a b with | some f=>f x | none=>b.zero
def E9(t t':Ty)(x:t.den):Option t'.den:=
 match s9 t t' x with
 |some y=>ao y
 |none=>match Xk t t' with
  |some f=>ao (f x)
  |none=>aJ
def nth(t:Ty)(l:List t.den)(i:Nat):t.den:=l.getD i t.zero
inductive Id where
 |bF (k:Nat)
 |new (site j:Nat)
 deriving DecidableEq,Inhabited
inductive Hw where
 |fst | snd
 |idx (i:Nat)
 |arr
structure uk where
 y:Nat
 ps:Array Tmp
 as:Code
 b:Code
inductive aD where
 |undef
 |gone
 |dH | kh | vY | By
 |d (t:Ty) (x:t.den)
 |pr (a b:aD)
 |ptr (id:Id) (ver:Nat) (p:List Hw) (n:Nat)
 |eI (t:Ty) (x:t.den)
 |b8 (id:Id) (ver:Nat) (p:List Hw) (c i len:Nat)
 |fn (f:fK) (caps:aD)
 |cons (a b:aD)
 |nil
 |vec (e:TypeId) (t:Ty) (l:List t.den)
 |sb (l:List Int)
 |bx (e:TypeId) (z:Nat) (c:aD)
 |cO (id:Id) (ver:Nat)
 |mp (k v:Ty) (l:List (k.den×v.den))
 |qo (q:Id) (ver:Nat) (k v:Ty) (rest:List (k.den×v.den)) (cur:Option (k.den×v.den))
 |yl (id:Id) (ver:Nat)
 |yZ (c:uk) (frame:aD) (p:Nat)
inductive dU where
 |dead
 |obj (ver:Nat) (fr:Bool) (c:aD)
def dC(c:aD):dU:= .obj 0 aR c
def dG(c:aD):List dU:=[.obj 0 aR c]
def fu(q:Nat):aD:= .ptr (.new q 0) 0 [] 0
def oa(q n:Nat):aD:= .b8 (.new q 0) 0 [] 0 0 n
def kK:aD:= .d .unit ()
def cq:aD:= .undef
structure AS where
 ct:List aD
 cn:List dU
 news:List (List dU)
def bf(n:Nat)(l:List aD):List aD:=ai n .undef++l
def bI(n:Nat)(l:List (List dU)):List (List dU):=ai n []++l
inductive Out(α:Type):Type 1 where
 |ok (a:α)
 |fail
 |ue (c:Bool) (r:Out α)
 |get {β:Type} (x:Option β) (f:β->Out α)
 |br (c:Bool) (a b:Out α)
def Out.eval{α:Type}:Out α->Option α
 | .ok a=>ao a
 | .fail=>aJ
 | .ue c r=>match c with | true=>r.eval | false=>aJ
 | .get x f=>match x with | some y=>(f y).eval | none=>aJ
 | .br c a b=>match c with | true=>a.eval | false=>b.eval
def aS{α:Type}(c:Bool)(x y:Option α):Option α:=match c with | true=>x | false=>y
def aq{α β:Type}(x:Option α)(f:α->Option β):Option β:=match x with | some a=>f a | none=>aJ
def Out.run{α R:Type}:Out α->(α->Option R)->Option R
 | .ok a,k=>k a
 | .fail,_=>aJ
 | .ue c r,k=>aS c (r.run k) aJ
 | .get x f,k=>aq x λy=>(f y).run k
 | .br c a b,k=>aS c (a.run k) (b.run k)
def Out.bind{α β:Type}:Out α->(α->Out β)->Out β
 | .ok a,f=>f a
 | .fail,_=> .fail
 | .ue c r,f=> .ue c (r.bind f)
 | .get x g,f=> .get x λy=>(g y).bind f
 | .br c a b,f=> .br c (a.bind f) (b.bind f)
def Out.opt{α:Type}:Option α->Out α
 |some a=> .ok a
 |none=> .fail
def Out.guard{α:Type}(c:Bool)(r:Out α):Out α:=match c with | true=>r | false=> .fail
def aD.size:aD->Nat
 | .d t _=>t.size
 | .pr a b=>a.size+b.size
 |_=>1
def aD.agg:aD->Bool
 | .d t _=>t.agg
 | .pr _ _=>aT
 |_=>aR
def aD.eQ:aD->Bool
 | .undef | .cons _ _ | .nil | .vec .. | .bx .. | .mp .. | .qo .. | .yZ .. =>aR
 |_=>aT
def aD.strip:aD->aD
 | .bx _ _ c=>c
 |c=>c
def aD.wrap:aD->aD->aD
 | .bx e z _,c=> .bx e z c
 |_,c=>c
def Me:aD->aD->aD
 | .d a x,.d b y=> .d (.pair a b) (x,y)
 |a,b=> .pr a b
def ofConst:Value->aD
 | .bool b=> .d .bool b
 | .int k n=> .d (.int k) n
 | .string s=> .d .str s
 | .slice aJ 0 0=> .dH
 | .pointer aJ=> .kh
 | .nilFunc=> .vY
 | .map aJ=> .By
 |_=> .undef
def AS.slot(s:AS)(i:Nat):aD:=s.ct.getD i .undef
def AS.ev(s:AS):bK->aD
 | .tmp t=>s.slot t
 | .const v=>ofConst v
 | .func f=> .fn f .nil
 | .global _=> .undef
def AS.put(s:AS)(dst:Option Tmp)(v:aD):AS:=
 match dst with
 |some t=> {s with ct:=s.ct.set t v}
 |none=>s
def AS.bU(s:AS):Id->Option dU
 | .bF k=>s.cn[k]?
 | .new i j=>(s.news.getD i [])[j]?
def AS.aZ(s:AS)(id:Id)(e:dU):AS:=
 match id with
 | .bF k=> {s with cn:=s.cn.set k e}
 | .new i j=> {s with news:=s.news.set i ((s.news.getD i []).set j e)}
def AS.ez(s:AS)(i:Nat):Bool:=match s.news[i]? with | some []=>aT | _=>aR
def AS.born(s:AS)(i:Nat)(es:List dU):AS:= {s with news:=s.news.set i es}
def AS.obj(s:AS)(id:Id):Option (Nat×Bool×aD):=
 match s.bU id with
 |some (.obj v f c)=>ao (v,f,c)
 |_=>aJ
def aKX:List Nat:=[104]
def WY(P:aM)(nl:Bool):Nat->TypeId->Option Ty
 | 0,_=>aJ
 |n+1,T=>
  match P.underlying T with
  |some (.int k)=>ao (.int k)
  |some .bool=>ao .bool
  |some .string=>ao .str
  |some (.slice e)=>match WY P aR n e with | some t=>ao (match nl with | true=> .fS t | false=> .slice t) | none=>aJ
  |some (.array k e)=>match WY P nl n e with | some t=>ao (.arr k t) | none=>aJ
  |some (.pointer e)=>match WY P aR n e with | some t=>ao (match aKX.contains T with | true=> .gN t | false=> .od t) | none=>aJ
  |some (.struct fs)=>fs.toList.foldr (λf acc=>match WY P nl n f.type,acc with | some a,ao b=>ao (.pair a b) | _,_=>aJ) (ao .unit)
  |_=>aJ
def ahP(P:aM):Nat->TypeId->Option Ty:=WY P aR
def zeroOf(P:aM):Nat->TypeId->Option aD
 | 0,_=>aJ
 |n+1,T=>
  match P.underlying T with
  |some (.int k)=>ao (.d (.int k) (0:Int))
  |some .bool=>ao (.d .bool aR)
  |some .string=>ao (.d .str ByteArray.empty)
  |some (.slice _)=>ao .dH
  |some (.pointer _)=>ao .kh
  |some (.map _ _)=>ao .By
  |some (.func _ _ _)=>ao .vY
  |some (.array k e)=>match ahP P n e with | some t=>ao (.d (.arr k t) (ai k t.zero)) | none=>aJ
  |some (.struct fs)=>fs.toList.foldr (λf acc=>match zeroOf P n f.type,acc with | some a,ao b=>ao (Me a b) | _,_=>aJ) (ao (.d .unit ()))
  |_=>aJ
def depth:Nat:=12
def fits(P:aM)(T:TypeId)(v:aD):Bool:=
 v.eQ && (P.cellsOf T==v.size) &&
 (match P.underlying T with | some (.struct _)=>v.agg | some (.array _ _)=>v.agg | some _=> !v.agg | none=>aR)
def nI:Nat->List Hw
 | 0=> [.fst]
 |n+1=> .snd::nI n
def loc:aD->List Hw->Out (Nat×aD)
 |c,[]=> .ok (0,c)
 |c,.arr::p=>loc c p
 | .pr a _,.fst::p=>loc a p
 | .pr a b,.snd::p=>(loc b p).bind λ(n,v)=> .ok (a.size+n,v)
 | .d (.pair a _) x,.fst::p=>loc (.d a x.1) p
 | .d (.pair a b) x,.snd::p=>(loc (.d b x.2) p).bind λ(n,v)=> .ok (a.size+n,v)
 | .d (.arr _ t) l,.idx i::p=> .ue (decide (i < (l:List t.den).length)) ((loc (.d t (nth t l i)) p).bind λ(n,v)=> .ok (i*t.size+n,v))
 | .vec _ t l,.idx i::p=> .ue (decide (i < l.length)) ((loc (.d t (nth t l i)) p).bind λ(n,v)=> .ok (i*t.size+n,v))
 |_,_::_=> .fail
def w6:aD->List Hw->aD->Out aD
 |c,.arr::p,v=>w6 c p v
 | .vec ..,[],_=> .fail
 | .mp ..,[],_=> .fail
 | .qo ..,[],_=> .fail
 | .yZ ..,[],_=> .fail
 |c,[],v=> .guard (v.eQ && (c.size==v.size)) (.ok v)
 | .pr a b,.fst::p,v=>(w6 a p v).bind λa'=> .ok (Me a' b)
 | .pr a b,.snd::p,v=>(w6 b p v).bind λb'=> .ok (Me a b')
 | .d (.pair a b) x,.fst::p,v=>(w6 (.d a x.1) p v).bind λa'=> .ok (Me a' (.d b x.2))
 | .d (.pair a b) x,.snd::p,v=>(w6 (.d b x.2) p v).bind λb'=> .ok (Me (.d a x.1) b')
 | .d (.arr n t) l,.idx i::p,v=> .ue (decide (i < (l:List t.den).length)) ((w6 (.d t (nth t l i)) p v).bind fun
   | .d t' y=>(Out.opt (s9 t' t y)).bind λy=> .ok (.d (.arr n t) ((l:List t.den).set i y))
   |_=> .fail)
 | .vec e t l,.idx i::p,v=> .ue (decide (i < l.length)) ((w6 (.d t (nth t l i)) p v).bind fun
   | .d t' y=>(Out.opt (s9 t' t y)).bind λy=> .ok (.vec e t (l.set i y))
   |_=> .fail)
 |_,_::_,_=> .fail
def AS.row(s:AS)(id:Id)(ver:Nat)(p:List Hw):Out (Nat×(t:Ty)×List t.den):=
 match s.obj id with
 |some (v,_,c)=> .guard (v==ver) ((loc c.strip p).bind fun
  | (n,.d (.arr _ t) l)=> .ok (n,⟨t,l⟩)
  | (n,.vec _ t l)=> .ok (n,⟨t,l⟩)
  |_=> .fail)
 |none=> .fail
def cut{α:Type}(l:List α)(i len:Nat):List α:=(l.drop i).take len
def AS.iK(s:AS):(t:Ty)->aD->Out t.den
 |t,.d t' x=>Out.opt (E9 t' t x)
 | .slice _,.dH=> .ok []
 | .fS _,.dH=> .ok aJ
 | .od _,.kh=> .ok aJ
 | .gN _,.kh=> .ok aJ
 | .slice t,.b8 id ver p c i len=>(s.row id ver p).bind λr=> .ue (decide (r.1+i*r.2.1.size=c/\i+len<=r.2.2.length)) (Out.opt (E9 (.slice r.2.1) (.slice t) (cut r.2.2 i len)))
 | .fS t,.b8 id ver p c i len=>(s.row id ver p).bind λr=> .ue (decide (r.1+i*r.2.1.size=c/\i+len<=r.2.2.length)) (Out.opt (E9 (.slice r.2.1) (.fS t) (cut r.2.2 i len)))
 | .pair a b,.pr x y=>(s.iK a x).bind λx=>(s.iK b y).bind λy=> .ok (x,y)
 |_,_=> .fail
def aD.shared:aD->List Id
 | .b8 id _ _ _ _ _=> [id]
 | .pr a b=>a.shared++b.shared
 |_=> []
def AS.freeze(s:AS)(id:Id):AS:=
 match s.bU id with
 |some (.obj v _ c)=>s.aZ id (.obj v aT c)
 |_=>s
def AS.bt(s:AS):List Id->AS
 |[]=>s
 |id::ids=>(s.freeze id).bt ids
end Go.Ab
namespace Go.Ab
def aup{α:Type}(f:α->List Value->Option (List Value)):List α->List Value->Option (List Value)
 |[],cs=>ao cs
 |x::xs,cs=>match f x cs with | some r=>aup f xs r | none=>aJ
def uo:(t:Ty)->t.den->List Value->Option (List Value)
 | .int k,x,.int k' n::r=>match decide (k=k'),decide (n=(x:Int)) with | true,aT=>ao r | _,_=>aJ
 | .bool,x,.bool b::r=>match decide (b=(x:Bool)) with | true=>ao r | false=>aJ
 | .str,x,.string s::r=>match decide (s=(x:ByteArray)) with | true=>ao r | false=>aJ
 | .slice _,[],.slice aJ 0 0::r=>ao r
 | .fS _,aJ,.slice aJ 0 0::r=>ao r
 | .od _,aJ,.pointer aJ::r=>ao r
 | .gN _,aJ,.pointer aJ::r=>ao r
 | .unit,_,r=>ao r
 | .pair a b,x,r=>match uo a x.1 r with | some r'=>uo b x.2 r' | none=>aJ
 | .arr n t,l,r=>match decide ((l:List t.den).length=n) with | true=>aup (uo t) l r | false=>aJ
 |_,_,_=>aJ
def Rr:aD->List Value->Option (List Value)
 | .d t x,r=>uo t x r
 | .dH,.slice aJ 0 0::r=>ao r
 | .kh,.pointer aJ::r=>ao r
 | .vY,.nilFunc::r=>ao r
 | .By,.map aJ::r=>ao r
 | .pr a b,r=>match Rr a r with | some r'=>Rr b r' | none=>aJ
 |_,_=>aJ
def rJ:Value->Bool | .agg _=>aT | _=>aR
def adt(P:aM)(T:TypeId)(z:aD):Bool:=
 match P.info? T with
 |some i=>match i.zero with
  |some zv=>(match Rr z zv.cells.toList with | some []=>aT | _=>aR) && (rJ zv==z.agg)
  |none=>aR
 |none=>aR
structure ig where
 val:aD
 cn:List dU
 news:List dU
structure Entry where
 params:List (Option Ty)
 X:Type
 run:List aD->List dU->Option X
 out:List aD->List dU->X->ig
 sp:X->Out X:= .ok
 anz:∀x y,(sp x).eval=ao y->y=x:=by exact λx y h=>(aP h).symm
 rel:Bool:=aR
 set:List aD->List dU->X->Prop:=λ_ _ _=>False
abbrev qi:=fK->List aD->Option Entry
def aD.ids:aD->List Id
 | .ptr id _ _ _=> [id]
 | .b8 id _ _ _ _ _=> [id]
 | .pr a b=>a.ids++b.ids
 | .cons a b=>a.ids++b.ids
 | .fn _ c=>c.ids
 | .bx _ _ c=>c.ids
 | .cO id _=> [id]
 | .yl id _=> [id]
 | .yZ _ f _=>f.ids
 | .qo id _ _ _ _ _=> [id]
 |_=> []
def dU.ids:dU->List Id
 | .obj _ _ c=>c.ids
 | .dead=> []
def AS.reach(s:AS):Nat->List Id->List Id->List Id
 | 0,_,acc=>acc
 |_+1,[],acc=>acc
 |n+1,id::todo,acc=>if acc.contains id then s.reach n todo acc else s.reach n (((s.bU id).getD .dead).ids++todo) (acc++ [id])
def idxOf(id:Id):List Id->Option Nat
 |[]=>aJ
 |x::xs=>if x=id then ao 0 else(idxOf id xs).map (· +1)
def aD.iJ(ρ:Id->Nat->Option (Id×Nat)):aD->aD
 | .ptr id ver p n=>match ρ id ver with | some r=> .ptr r.1 r.2 p n | none=> .gone
 | .b8 id ver p c i len=>match ρ id ver with | some r=> .b8 r.1 r.2 p c i len | none=> .gone
 | .pr a b=> .pr (a.iJ ρ) (b.iJ ρ)
 | .cons a b=> .cons (a.iJ ρ) (b.iJ ρ)
 | .fn f c=> .fn f (c.iJ ρ)
 | .bx e z c=> .bx e z (c.iJ ρ)
 | .cO id ver=>match ρ id ver with | some r=> .cO r.1 r.2 | none=> .gone
 | .yl id ver=>match ρ id ver with | some r=> .yl r.1 r.2 | none=> .gone
 | .yZ k f p=> .yZ k (f.iJ ρ) p
 | .qo id _ k v rest cur=> .qo id 0 k v rest cur
 |v=>v
def AS.wi(s:AS)(ids:List Id)(id:Id)(ver:Nat):Option (Id×Nat):=
 match idxOf id ids,s.obj id with
 |some k,ao (v,_,_)=>if v=ver then ao (.bF k,0) else aJ
 |_,_=>aJ
def AS.mz(s:AS)(ids:List Id)(id:Id):dU:=
 match s.bU id with
 |some (.obj _ fr c)=> .obj 0 fr (c.iJ (s.wi ids))
 |_=> .dead
def AS.Ba(s:AS)(id:Id):Nat:=match s.obj id with | some (v,_,_)=>v | none=>0
def aCA(ids:List Id)(dst:Nat):Id->Id
 | .bF k=>ids.getD k (.bF 0)
 | .new _ j=> .new dst j
def AS.uG(s:AS)(ids:List Id)(dst:Nat):Id->Nat->Option (Id×Nat)
 | .bF k,v=>match ids[k]? with | some id=>ao (id,s.Ba id+v) | none=>aJ
 | .new _ j,v=>ao (.new dst j,v)
def AS.rG(s:AS)(ids:List Id)(dst:Nat)(ver:Nat):dU->dU
 | .obj v fr c=> .obj (ver+v) fr (c.iJ (s.uG ids dst))
 | .dead=> .dead
def AS.conv(s:AS):List (Option Ty)->List aD->Out (List aD×List Id)
 |[],[]=> .ok ([],[])
 |some t::ps,v::vs=>(s.iK t v).bind λx=>(s.conv ps vs).bind λr=> .ok (.d t x::r.1,v.shared++r.2)
 |none::ps,v::vs=>(s.conv ps vs).bind λr=> .ok (v::r.1,r.2)
 |_,_=> .fail
def AS.jF(s0:AS)(all:List Id)(dst:Nat)(s:AS):List Id->List dU->AS
 |id::ids,e::es=>AS.jF s0 all dst (s.aZ id (s0.rG all dst (s0.Ba id) e)) ids es
 |_,_=>s
def aD.list:aD->List aD
 | .cons a b=>a::b.list
 |_=> []
def AS.made(s:AS)(ids:List Id)(t:Nat):List dU->AS
 |[]=>s
 |e::es=>s.born t ((e::es).map (s.rG ids t 0))
def AS.back(s:AS)(ids:List Id)(dst:Option Tmp)(g:ig):Out AS:=
 match dst with
 |some t=> .guard ((g.cn.length==ids.length) && (g.news.isEmpty || s.ez t))
   (.ok ((AS.jF s ids t (s.made ids t g.news) ids g.cn).put dst (g.val.iJ (s.uG ids t))))
 |none=> .guard ((g.cn.length==ids.length) && g.news.isEmpty) (.ok (AS.jF s ids 0 s ids g.cn))
def AS.Zf(s:AS)(vs:List aD):List Id:=s.reach 64 (vs.flatMap aD.ids) []
def AS.Oy(s:AS)(id:Id):Bool:=match s.obj id with | some (_,aT,.mp ..)=>aR | _=>aT
def AS.enter(s:AS)(en:Entry)(dst:Option Tmp)(ids:List Id)(vs:List aD):Out AS:= .guard (ids.all λid=>(s.obj id).isSome && s.Oy id) (.get (en.run (vs.map (aD.iJ (s.wi ids))) (ids.map (s.mz ids))) λx=>(en.sp x).bind λx=>s.back ids dst (en.out (vs.map (aD.iJ (s.wi ids))) (ids.map (s.mz ids)) x))
def AS.call(s:AS)(en:Entry)(dst:Option Tmp)(vs:List aD):Out AS:=(s.conv en.params vs).bind λr=>(s.bt r.2).enter en dst ((s.bt r.2).Zf r.1) r.1
def eh(op:BinOp)(k:kR)(x y:Int):Int:=
 match op with
 | .and=>k.wrap ((bj k.bits x &&& bj k.bits y).toNat)
 | .or=>k.wrap ((bj k.bits x ||| bj k.bits y).toNat)
 | .xor=>k.wrap ((bj k.bits x^^^bj k.bits y).toNat)
 |_=>k.wrap ((bj k.bits x &&& ~~~bj k.bits y).toNat)
def avo(op:BinOp)(k:kR)(x:Int)(k':kR)(y:Int):Out aD:=
 match op with
 | .shl=> .ue (decide (0<=y)) (.ok (.d (.int k) (k.wrap (x*2^(min y.toNat k.bits)))))
 | .shr=> .ue (decide (0<=y)) (.ok (.d (.int k) (x.fdiv (2^(min y.toNat k.bits)))))
 |_=> .guard (decide (k=k')) (match op with
  | .add=> .ok (.d (.int k) (k.wrap (x+y)))
  | .sub=> .ok (.d (.int k) (k.wrap (x - y)))
  | .mul=> .ok (.d (.int k) (k.wrap (x*y)))
  | .quo=> .ue (!(decide (y=0))) (.ok (.d (.int k) (k.wrap (x.tdiv y))))
  | .rem=> .ue (!(decide (y=0))) (.ok (.d (.int k) (x.tmod y)))
  | .eql=> .ok (.d .bool (x==y))
  | .neq=> .ok (.d .bool (x !=y))
  | .lss=> .ok (.d .bool (decide (x < y)))
  | .leq=> .ok (.d .bool (decide (x<=y)))
  | .gtr=> .ok (.d .bool (decide (x > y)))
  | .geq=> .ok (.d .bool (decide (x>=y)))
  |op=> .ok (.d (.int k) (eh op k x y)))
def ax5(op:BinOp)(x y:ByteArray):Out aD:=
 match op with
 | .add=> .ue (decide (((x.size+y.size:Nat):Int)<=IntKind.i64.max)) (.ok (.d .str (x++y)))
 | .eql=> .ok (.d .bool (x.toList==y.toList))
 | .neq=> .ok (.d .bool (!(x.toList==y.toList)))
 | .lss=> .ok (.d .bool (Op.bytesLess x.toList y.toList))
 | .geq=> .ok (.d .bool (!(Op.bytesLess x.toList y.toList)))
 |_=> .fail
def JH(P:aM)(T:TypeId)(b:Bool):Bool:=
 match P.underlying T with | some (.struct _)=>b | some (.array _ _)=>b | some _=> !b | none=>aR
def Jq(P:aM)(ue:TypeId->Ty->Bool):List Field->Ty->Nat->Bool
 |[],.unit,_=>aT
 |f::fs,.pair a b,off=> !(f.name== "_") && (f.offset==off) && !(a.size==0) && (P.cellsOf f.type==a.size) && JH P f.type a.agg && ue f.type a && Jq P ue fs b (off+a.size)
 |_,_,_=>aR
def aBm(P:aM)(u:TypeId):Bool:=match P.info? u with | some i=> !(i.size==0) | none=>aR
def aG4(P:aM)(T:TypeId):Bool:=match P.underlying T with | some (.pointer u)=>aBm P u | _=>aR
def sh(P:aM):Nat->TypeId->Ty->Bool
 | 0,_,_=>aR
 |n+1,T,t=>match P.underlying T,t with
  |some (.int _),.int _=>aT
  |some .bool,.bool=>aT
  |some .string,.str=>aT
  |some (.pointer u),.gN t=>aBm P u && t.amS
  |some (.array m e),.arr m' t'=>(m==m') && !(t'.size==0) && (P.cellsOf e==t'.size) && JH P e t'.agg && sh P n e t'
  |some (.struct fs),t=> !P.stoodInHeld T && Jq P (sh P n) fs.toList t 0
  |_,_=>aR
def aHk(P:aM)(T:TypeId):Bool:=match P.underlying T with | some (.pointer u)=>(P.info? u).isSome | _=>aR
def xM(P:aM)(T:TypeId):aD->aD->Out Bool
 | .d (.gN t) x,.d (.gN t') y=>(Out.opt (s9 (.gN t') (.gN t) y)).bind λy=> .guard (aG4 P T && t.amS) (.ok ((Ty.gN t).beq x y))
 | .d t x,.d t' y=>(Out.opt (s9 t' t y)).bind λy=> .guard ((t.agg && !P.eqGuardType P.depth T || decide (t= .bool)) && sh P depth T t) (.ok (t.beq x y))
 | .dH,.dH=> .guard (isSl P T) (.ok aT)
 | .d (.slice t) l,.dH=> .guard (isSl P T) (.ue (decide (0 < (l:List t.den).length)) (.ok aR))
 | .dH,.d (.slice t) l=> .guard (isSl P T) (.ue (decide (0 < (l:List t.den).length)) (.ok aR))
 | .b8 _ _ _ _ _ len,.dH=> .guard (isSl P T) (.ue (decide (0 < len)) (.ok aR))
 | .dH,.b8 _ _ _ _ _ len=> .guard (isSl P T) (.ue (decide (0 < len)) (.ok aR))
 | .kh,.kh=> .guard (isPt P T) (.ok aT)
 | .ptr ..,.kh=> .guard (isPt P T) (.ok aR)
 | .kh,.ptr .. => .guard (isPt P T) (.ok aR)
 | .d (.od t) x,.kh=> .guard (isPt P T) (.ok (x:Option t.den).isNone)
 | .kh,.d (.od t) x=> .guard (isPt P T) (.ok (x:Option t.den).isNone)
 | .d (.gN t) x,.kh=> .guard (isPt P T) (.ok (x:Option (Nat×t.den)).isNone)
 | .kh,.d (.gN t) x=> .guard (isPt P T) (.ok (x:Option (Nat×t.den)).isNone)
 | .vY,.vY=> .guard (isFn P T) (.ok aT)
 | .fn ..,.vY=> .guard (isFn P T) (.ok aR)
 | .vY,.fn .. => .guard (isFn P T) (.ok aR)
 |_,_=> .fail
where
 isSl (P:aM) (T:TypeId):Bool:=match P.underlying T with | some (.slice _)=>aT | _=>aR
 isPt (P:aM) (T:TypeId):Bool:=match P.underlying T with | some (.pointer _)=>aT | _=>aR
 isFn (P:aM) (T:TypeId):Bool:=match P.underlying T with | some (.func _ _ _)=>aT | _=>aR
def aDe(P:aM)(T:TypeId)(op:BinOp)(x y:aD):Out aD:=
 match x,y with
 | .d (.int k) a,.d (.int k') b=>avo op k a k' b
 | .d .str a,.d .str b=>ax5 op a b
 |x,y=>match op with
  | .eql=>(xM P T x y).bind λb=> .ok (.d .bool b)
  | .neq=>(xM P T x y).bind λb=> .ok (.d .bool (!b))
  |_=> .fail
def aIg(op:UnOp)(x:aD):Out aD:=
 match op,x with
 | .not,.d .bool b=> .ok (.d .bool (!b))
 | .neg,.d (.int k) n=> .ok (.d (.int k) (k.wrap (0 - n)))
 | .xor,.d (.int k) n=> .ok (.d (.int k) (eh .xor k (if k.signed then -1 else k.max) n))
 |_,_=> .fail
def cE(s:ByteArray):List Int:=s.data.toList.map λb=>(b.toNat:Int)
def fB(l:List Int):ByteArray:=⟨(l.map λn=>fo n.toNat).toArray⟩
def AS.akk(s:AS)(t:Ty)(v:aD):Out t.den:=s.iK t v
def atN(P:aM)(s:AS)(obj:Bool)(src dst:TypeId)(x:aD):Out aD:=
 match x,P.underlying dst,P.underlying src with
 | .d (.int _) n,ao (.int k),ao _=> .ok (.d (.int k) (k.wrap n))
 | .d .str a,ao .string,ao _=> .ok (.d .str a)
 | .d .str a,ao (.slice e),ao _=>match P.underlying e with
  |some (.int .u8)=>match obj with | true=> .ok (.sb (cE a)) | false=> .ok (.d (.slice (.int .u8)) (cE a))
  |_=> .fail
 |x,ao .string,ao (.slice e)=>match P.underlying e with
  |some (.int .u8)=>(s.akk (.slice (.int .u8)) x).bind λl=> .ok (.d .str (fB l))
  |_=> .fail
 |_,_,_=> .fail
def atO(P:aM)(src dst:TypeId)(l:List Int):Out aD:=
 match P.underlying dst,P.underlying src with
 |some (.slice e),ao (.slice _)=>match P.underlying e with
  |some (.int .u8)=> .guard (src==dst) (.ok (.d (.slice (.int .u8)) l))
  |_=> .fail
 |_,_=> .fail
def YJ(P:aM)(s:AS)(obj:Bool)(src dst:TypeId)(x:aD):Out aD:=
 match x with
 | .sb l=>atO P src dst l
 |x=>atN P s obj src dst x
def aew(P:aM)(s:AS)(d:Option Tmp)(src dst:TypeId)(id:Id)(ver len:Nat):Out AS:=
 match s.obj id,P.underlying dst with
 |some (v,aR,.vec _ (.int .u8) l),ao (.slice e)=>match P.underlying e with
  |some (.int .u8)=> .guard ((v==ver) && (src==dst)) (.ue (decide (0 < len/\len=(l:List Int).length)) (.ok ((s.aZ id .dead).put d (.d (.slice (.int .u8)) l))))
  |_=> .fail
 |_,_=> .fail
def YK(P:aM)(s:AS)(src dst:TypeId)(id:Id)(ver:Nat):Out aD:=
 match s.obj id with
 |some (v,_,.bx e 0 c)=>match P.underlying src,P.underlying dst with
  |some (.pointer t),ao .unsafePointer=> .guard ((v==ver) && !(P.cellsOf t==0) && !(c.size==0)) (.ok (.ptr id ver [] 0))
  |some .unsafePointer,ao (.pointer u)=> .guard ((v==ver) && !(P.cellsOf u==0) && liesAt P P.depth e (c.size / P.cellsOf e) 0 u 1) (.ok (.ptr id ver [] 0))
  |_,_=> .fail
 |_=> .fail
def aFn(P:aM)(s:AS)(T:TypeId)(op:BinOp)(i:Id)(v:Nat)(j:Id)(w:Nat):Out aD:=
 match s.obj i with
 |some (v',_,_)=> .guard (decide (i=j) && (v==w) && (v==v') && aHk P T) (match op with | .eql=> .ok (.d .bool aT) | .neq=> .ok (.d .bool aR) | _=> .fail)
 |none=> .fail
def ahC(P:aM)(s:AS)(d:Option Tmp)(T:TypeId)(id:Id)(ver:Nat)(n:Int):Out AS:=
 match s.obj id,P.underlying T with
 |some (v,aR,.vec e (.int .u8) l),ao (.pointer u)=> .guard ((v==ver) && (u==e) && (P.cellsOf e==1))
   (.ue (decide (0 < n/\n<=((l:List Int).length:Int))) (.ok ((s.aZ id .dead).put d (.d .str (fB ((l:List Int).take n.toNat))))))
 |_,_=> .fail
def asInt:aD->Out Int
 | .d (.int _) n=> .ok n
 |_=> .fail
def bounds(s:AS)(n:Nat)(lo hi:Option bK):Out (Nat×Nat):=
 (match hi with
  |some h=>(asInt (s.ev h)).bind λh=> .ue (decide (0<=h/\h<=(n:Int))) (.ok h.toNat)
  |none=> .ok n).bind λh=>
 (match lo with
  |some l=>(asInt (s.ev l)).bind λl=> .ue (decide (0<=l/\l<=(h:Int))) (.ok l.toNat)
  |none=> .ok 0).bind λl=> .ok (l,h)
def lf(P:aM)(T:TypeId):Option Nat:=
 match P.underlying T with
 |some (.array _ e)=>match P.cellsOf e with | 0=>aJ | z+1=>ao (z+1)
 |some (.slice e)=>match P.cellsOf e with | 0=>aJ | z+1=>ao (z+1)
 |_=>aJ
def wZ(P:aM)(T:TypeId):Option Nat:=
 match P.underlying T with
 |some (.array n _)=>ao n
 |_=>aJ
def Gn(P:aM)(s:AS)(T:TypeId)(x:aD)(lo hi:Option bK):Out aD:=
 match x with
 | .d .str a=> .guard (match P.underlying T with | some .string=>aT | _=>aR) ((bounds s a.size lo hi).bind λb=> .ok (.d .str (a.extract b.1 b.2)))
 | .d (.slice t) l=> .guard (match lf P T,wZ P T with | some z,aJ=>z==t.size | _,_=>aR)
   ((bounds s (l:List t.den).length lo hi).bind λb=> .ok (.d (.slice t) (cut l b.1 (b.2 - b.1))))
 | .dH=> .guard (match lf P T,wZ P T with | some _,aJ=>aT | _,_=>aR) ((bounds s 0 lo hi).bind λ_=> .ok .dH)
 | .b8 id ver p c i len=>(s.row id ver p).bind λr=> .guard (match lf P T,wZ P T with | some z,aJ=>z==r.2.1.size | _,_=>aR)
   ((bounds s len lo hi).bind λb=> .ok (.b8 id ver p (c+b.1*r.2.1.size) (i+b.1) (b.2 - b.1)))
 | .ptr id ver p n=>(s.row id ver p).bind λr=> .guard (match lf P T,wZ P T with | some z,ao _=>z==r.2.1.size | _,_=>aR)
   (.ue (decide (wZ P T=ao r.2.2.length/\r.1=n)) ((bounds s ((wZ P T).getD 0) lo hi).bind λb=> .ok (.b8 id ver (p++ [.arr]) (n+b.1*r.2.1.size) b.1 (b.2 - b.1))))
 | .eI (.arr n t) l=> .guard (match lf P T,wZ P T with | some z,ao m=>(z==t.size) && (m==n) | _,_=>aR)
   ((bounds s n lo hi).bind λb=> .ok (.d (.slice t) (cut l b.1 (b.2 - b.1))))
 |_=> .fail
def aAy:aD->Int
 | .d (.slice t) l=>((l:List t.den).length:Int)
 | .b8 _ _ _ _ _ len=>(len:Int)
 | .dH=>0
 |_=> -1
def aeW:Option bK->aD->aD
 |some _,.b8 id ver p c i len=> .b8 id ver (p++ [.arr]) c i len
 |_,v=>v
def Ng(P:aM)(s:AS)(T:TypeId)(x:aD)(lo:Option bK)(h m:bK):Out aD:=(asInt (s.ev h)).bind λhv=>(asInt (s.ev m)).bind λmv=> .ue (decide (0<=hv/\hv<=mv/\mv<=aAy x)) ((Gn P s T x lo (ao h)).bind λv=> .ok (aeW (ao m) v))
def rI(P:aM)(s:AS)(T:TypeId)(x:aD)(i:Int):Out aD:=
 match x with
 | .d (.slice t) l=> .guard (match lf P T,wZ P T with | some z,aJ=>z==t.size | _,_=>aR)
   (.ue (decide (0<=i/\i < ((l:List t.den).length:Int))) (.ok (.eI t (nth t l i.toNat))))
 | .eI (.arr n t) l=> .guard (match lf P T,wZ P T with | some z,ao m=>(z==t.size) && (m==n) | _,_=>aR)
   (.ue (decide (0<=i/\i < (n:Int))) (.ok (.eI t (nth t l i.toNat))))
 | .b8 id ver p c j len=>(s.row id ver p).bind λr=> .guard (match lf P T,wZ P T with | some z,aJ=>z==r.2.1.size | _,_=>aR)
   (.ue (decide (0<=i/\i < (len:Int))) (.ok (.ptr id ver (p++ [.idx (j+i.toNat)]) (c+i.toNat*r.2.1.size))))
 | .ptr id ver p n=> .guard (match lf P T,wZ P T with | some _,ao _=>aT | _,_=>aR)
   (.ue (decide (0<=i/\i < (((wZ P T).getD 0:Nat):Int))) (.ok (.ptr id ver (p++ [.idx i.toNat]) (n+i.toNat*(lf P T).getD 0))))
 |_=> .fail
def fieldInfo(P:aM)(T:TypeId)(f:Nat):Option (Nat×TypeId):=
 match P.underlying T with
 |some (.struct fs)=>match fs[f]? with | some x=>ao (x.offset,x.type) | none=>aJ
 |_=>aJ
def partOf:aD->Nat->Option (Nat×aD)
 | .d (.pair a _) x,0=>ao (0,.d a x.1)
 | .d (.pair a b) x,n+1=>match partOf (.d b x.2) n with | some (o,v)=>ao (a.size+o,v) | none=>aJ
 | .pr a _,0=>ao (0,a)
 | .pr a b,n+1=>match partOf b n with | some (o,v)=>ao (a.size+o,v) | none=>aJ
 |_,_=>aJ
def Ds(P:aM)(T:TypeId)(x:aD)(f:Nat):Out aD:=
 match fieldInfo P T f with
 |some (o,ft)=> .guard (!(P.cellsOf ft==0)) (match x with
  | .ptr id ver p n=> .ok (.ptr id ver (p++nI f) (n+o))
  | .eI t x=>match partOf (.d t x) f with
   |some (o',.d t' y)=> .guard (o==o') (.ok (.eI t' y))
   |_=> .fail
  | .d (.od t) x=> .get (x:Option t.den) λx=>match partOf (.d t x) f with
   |some (o',.d t' y)=> .guard (o==o') (.ok (.eI t' y))
   |_=> .fail
  | .d (.gN t) x=> .get (x:Option (Nat×t.den)) λx=>match partOf (.d t x.2) f with
   |some (o',.d t' y)=> .guard (o==o') (.ok (.eI t' y))
   |_=> .fail
  |_=> .fail)
 |none=> .fail
def abk(P:aM)(T:TypeId)(x:aD)(f:Nat):Out aD:=
 match fieldInfo P T f,partOf x f with
 |some (o,ft),ao (o',v)=> .guard ((o==o') && fits P ft v) (.ok v)
 |_,_=> .fail
def abB(P:aM)(T:TypeId)(x:aD)(i:Int):Out aD:=
 match x,P.underlying T with
 | .d (.arr n t) l,ao (.array m e)=> .guard ((n==m) && fits P e (.d t t.zero)) (.ue (decide (0<=i/\i < (n:Int))) (.ok (.d t (nth t l i.toNat))))
 | .d .str a,ao .string=> .ue (decide (0<=i/\i < (a.size:Int))) (.ok (.d (.int .u8) ((a.data.toList.getD i.toNat 0).toNat:Int)))
 |_,_=> .fail
def aEB:aD->Out aD
 | .d (.fS t) l=> .ue (l:Option (List t.den)).isNone (.ok .dH)
 |v=> .ok v
def L8(P:aM)(s:AS)(T:TypeId)(x:aD):Out aD:=
 match x with
 | .ptr id ver p n=>match s.obj id with
  |some (v,_,c)=> .guard (v==ver) ((loc c.strip p).bind λr=> .guard (fits P T r.2) (.ue (decide (r.1=n)) (aEB r.2)))
  |none=> .fail
 | .eI t y=> .guard (fits P T (.d t y)) (.ok (.d t y))
 | .d (.od t) y=> .get (y:Option t.den) λy=> .guard (fits P T (.d t y)) (.ok (.d t y))
 | .d (.gN t) y=> .get (y:Option (Nat×t.den)) λy=> .guard (fits P T (.d t y.2)) (.ok (.d t y.2))
 |_=> .fail
def Gq(P:aM)(s:AS)(T:TypeId)(x v:aD):Out AS:=
 match x with
 | .ptr id ver p n=>match s.obj id with
  |some (ve,fr,c)=> .guard ((ve==ver) && !fr && fits P T v) ((loc c.strip p).bind λr=> .guard (fits P T r.2) (.ue (decide (r.1=n)) ((w6 c.strip p v).bind λc'=> .ok (s.aZ id (.obj ve fr (c.wrap c'))))))
  |none=> .fail
 |_=> .fail
def aAx(P:aM)(T:TypeId)(x:aD):Out aD:=
 match P.underlying T,x with
 |some .string,.d .str a=> .ok (.d (.int .i64) (a.size:Int))
 |some (.slice _),.d (.slice t) l=> .ok (.d (.int .i64) ((l:List t.den).length:Int))
 |some (.slice _),.dH=> .ok (.d (.int .i64) (0:Int))
 |some (.slice _),.b8 _ _ _ _ _ len=> .ok (.d (.int .i64) (len:Int))
 |some (.array n _),_=> .ok (.d (.int .i64) (n:Int))
 |_,_=> .fail
def FF(P:aM)(s:AS)(t:Ty)(X:TypeId)(x:aD):Out (List t.den):=
 match x with
 | .d .str a=>match P.underlying X with
  |some .string=>Out.opt (s9 (.slice (.int .u8)) (.slice t) (cE a))
  |_=> .fail
 |x=>match P.underlying X with
  |some (.slice _)=>s.akk (.slice t) x
  |_=> .fail
def ea(n b:Nat):Bool:=decide (n*b<=140737488355328/\n<=9223372036854775807)
def Dp(P:aM)(nl:Bool)(T:TypeId):Option (TypeId×Ty×Nat):=
 match P.underlying T with
 |some (.slice e)=>match WY P nl depth e with
  |some t=>match(P.cellsOf e==t.size) && !(t.size==0) && adt P e (.d t t.zero) with | true=>ao (e,t,P.bytesOf e) | false=>aJ
  |none=>aJ
 |_=>aJ
def R1(P:aM)(T:TypeId):Option (TypeId×Ty×Nat):=Dp P aR T
def aa9(P:aM)(T:TypeId):Option (TypeId×Ty×Nat):=
 match Nat.ble 100000 T with
 |true=>Dp P aT (T - 100000)
 |false=>Dp P aR T
def afl(P:aM)(s:AS)(dst:Option Tmp)(T X:TypeId)(n:Int):Out AS:=
 match R1 P T,dst,P.underlying X with
 |some (e,t,b),ao q,ao (.int _)=> .guard (s.ez q) (.ue (decide (0 < n) && ea n.toNat b)
   (.ok ((s.born q [.obj 0 aR (.vec e t (ai n.toNat t.zero))]).put dst (.b8 (.new q 0) 0 [] 0 0 n.toNat))))
 |_,_,_=> .fail
def ap9(mx:Bool):List aD->Out aD
 |[.d (.int k) x,.d (.int k') y]=> .guard (decide (k=k')) (.ok (.d (.int k) (match mx with | true=>(if x < y then y else x) | false=>(if y < x then y else x))))
 |[.d (.int k) x,.d (.int k') y,.d (.int k2) z]=> .guard (decide (k=k') && decide (k=k2)) (.ok (.d (.int k) (match mx with | true=>(if(if x < y then y else x) < z then z else(if x < y then y else x)) | false=>(if z < (if y < x then y else x) then z else(if y < x then y else x)))))
 |_=> .fail
def w9(P:aM)(s:AS)(nl dt:Bool)(dst:Option Tmp)(T X:TypeId)(x y:aD):Out AS:=
 match Dp P nl T,dst with
 |some (e,t,b),ao q=>(FF P s t X y).bind λm=>
  match x with
  | .dH=>match dt with
   |true=> .ue (ea m.length b && decide (0 < m.length)) (.ok (s.put dst (.d (.fS t) (ao m))))
   |false=> .guard (s.ez q) (.ue (ea m.length b) (.ok ((s.born q [.obj 0 aR (.vec e t m)]).put dst (.b8 (.new q 0) 0 [] 0 0 m.length))))
  | .b8 id ver [] 0 0 len=>match s.obj id with
   |some (v,fr,.vec e' t' l)=> .guard ((v==ver) && (e==e')) ((Out.opt (s9 (.slice t') (.slice t) l)).bind λl=>
     .ue (decide (len<=l.length)) <| .ue ((!fr) || decide (len=l.length)) (.ue (ea (len+m.length) b)
      (.ok ((s.aZ id (.obj (v+1) fr (.vec e t (l.take len++m)))).put dst (.b8 id (v+1) [] 0 0 (len+m.length))))))
   |_=> .fail
  |_=> .fail
 |_,_=> .fail
def S6(P:aM)(s:AS)(dst:Option Tmp)(T X:TypeId)(x y:aD):Out AS:=
 match R1 P T,x with
 |some (_,t,_),.b8 id ver [.arr] 0 0 len=>(FF P s t X y).bind λm=>match s.obj id with
  |some (ve,aR,.d (.arr n t') l)=> .guard ((ve==ver) && (len==n)) ((Out.opt (s9 (.slice t') (.slice t) l)).bind λl=> .ue (decide (m.length<=n))
    (.ok ((s.aZ id (.obj ve aR (.d (.arr n t) (m++(l:List t.den).drop m.length)))).put dst (.d (.int .i64) (m.length:Int)))))
  |_=> .fail
 |_,_=> .fail
def jv(t:Ty)(s:AS):List (Nat×bK)->List t.den->Out (List t.den×List Id)
 |[],l=> .ok (l,[])
 | (i,x)::ps,l=> .guard (decide (i < l.length)) ((s.iK t (s.ev x)).bind λy=>(jv t s ps (l.set i y)).bind λr=> .ok (r.1,(s.ev x).shared++r.2))
def pY(P:aM)(fs:Array Field)(s:AS):List (Nat×bK)->aD->Out aD
 |[],v=> .ok v
 | (i,x)::ps,v=>match fs[i]?,partOf v i with
  |some f,ao (o,bF)=> .guard ((f.offset==o) && fits P f.type bF && fits P f.type (s.ev x)) ((w6 v (nI i) (s.ev x)).bind λv'=>pY P fs s ps v')
  |_,_=> .fail
def E4(P:aM)(s:AS)(dst:Option Tmp)(T:TypeId)(parts:List (Nat×bK)):Out AS:=
 match P.underlying T with
 |some (.struct fs)=>match zeroOf P depth T with
  |some z=> .guard (adt P T z && z.agg && fs.toList.all λf=>(P.info? f.type).isSome)
    ((pY P fs s parts z).bind λv=> .ok (s.put dst v))
  |none=> .fail
 |some (.array n e)=>match ahP P depth e with
  |some t=> .guard ((P.cellsOf e==t.size) && adt P T (.d (.arr n t) (ai n t.zero))) ((jv t s parts (ai n t.zero)).bind λr=> .ok ((s.bt r.2).put dst (.d (.arr n t) r.1)))
  |none=> .fail
 |_=> .fail
def mw(P:aM)(s:AS)(nl obj:Bool)(dst:Option Tmp)(T:TypeId)(n:Nat)(parts:List (Nat×bK)):Out AS:=
 match Dp P nl T,dst with
 |some (e,t,_),ao q=> .guard (decide (n*t.size<=16777216)) ((jv t s parts (ai n t.zero)).bind λr=>
   match obj with
   |true=> .guard (s.ez q) (.ok (((s.bt r.2).born q [.obj 0 aR (.vec e t r.1)]).put dst (.b8 (.new q 0) 0 [] 0 0 r.1.length)))
   |false=> .ok ((s.bt r.2).put dst (.d (.slice t) r.1)))
 |_,_=> .fail
def rM(P:aM)(s:AS)(dst:Option Tmp)(T:TypeId)(len cap:Int):Out AS:=
 match R1 P T,dst with
 |some (e,t,b),ao q=> .guard (s.ez q) (.ue (decide (0<=len/\len<=cap) && ea cap.toNat b)
   (.ok ((s.born q [.obj 0 aR (.vec e t (ai len.toNat t.zero))]).put dst (.b8 (.new q 0) 0 [] 0 0 len.toNat))))
 |_,_=> .fail
def aBx(P:aM)(T:TypeId):Bool:=
 match P.underlying T with
 |some (.struct fs)=>fs.toList.any λf=>match P.underlying f.type with | some (.pointer u)=>decide (u=T) | _=>aR
 |_=>aR
def boxed(P:aM)(T:TypeId)(z:aD):aD:=match aBx P T with | true=> .bx T 0 z | false=>z
def aDj(dt:Bool)(t:Ty)(x:t.den):aD:=match dt with | true=> .d (.od t) (ao x) | false=> .eI t x
def aei(P:aM)(s:AS)(obj dt:Bool)(dst:Option Tmp)(T:TypeId)(v:aD):Out AS:=
 match dst with
 |some q=>match obj with
  |true=> .guard (s.ez q && fits P T v) (.ok ((s.born q [.obj 0 aR v]).put dst (.ptr (.new q 0) 0 [] 0)))
  |false=>match ahP P depth T with
   |some t=> .guard (fits P T (.d t t.zero)) ((s.iK t v).bind λx=> .ok ((s.bt v.shared).put dst (aDj dt t x)))
   |none=> .fail
 |none=> .fail
def Kg(P:aM)(s:AS)(dst:Option Tmp)(T:TypeId)(x:aD):Out AS:=
 match P.underlying T with
 |some (.array n e)=>match ahP P depth e with
  |some t=> .guard ((P.cellsOf e==t.size) && !(n==0) && !(t.size==0)) ((s.iK (.slice t) x).bind λl=> .ue (decide (n<=(l:List t.den).length)) (.ok ((s.bt x.shared).put dst (.eI (.arr n t) (l.take n)))))
  |none=> .fail
 |_=> .fail
def rB(s:AS):List bK->aD
 |[]=> .nil
 |x::xs=> .cons (s.ev x) (rB s xs)
def zd:aD->Bool
 | .cons a b=>a.eQ && zd b
 | .nil=>aT
 |_=>aR
def am9(c a b:aD):Out aD:=
 match c with
 | .d .bool c=>match a,b with
  | .d .bool x,.d .bool y=> .ok (.d .bool (bif c then x else y))
  |a,b=> .br c (.ok a) (.ok b)
 |_=> .fail
def isObj(bN:List Nat):Option Tmp->Bool
 |some q=>bN.any λx=>decide (x=q)
 |none=>aR
def apK(bN:List Nat)(dst:Option Tmp):Bool:=isObj bN (dst.map (· +100000))
def ajB(bN:List Nat)(dst:Option Tmp):Bool:=isObj bN (dst.map (· +200000))
def qn:(t:Ty)->aD->Out t.den
 |t,.d t' x=>Out.opt (s9 t' t x)
 | .slice _,.dH=> .ok []
 | .pair a b,.pr x y=>(qn a x).bind λx=>(qn b y).bind λy=> .ok (x,y)
 |_,_=> .fail
def mapOf(P:aM)(T:TypeId):Option (TypeId×TypeId×Ty×Ty):=
 match P.underlying T with
 |some (.map K V)=>match ahP P depth K,ahP P depth V with
  |some kt,ao vt=>match sh P depth K kt && adt P V (.d vt vt.zero) with | true=>ao (K,V,kt,vt) | false=>aJ
  |_,_=>aJ
 |_=>aJ
def iQ{β:Type}(kt:Ty)(x:kt.den):List (kt.den×β)->Option Nat
 |[]=>aJ
 |p::l=>match kt.beq x p.1 with | true=>ao 0 | false=>(iQ kt x l).map (· +1)
def cd{β:Type}(kt:Ty)(x:kt.den)(l:List (kt.den×β)):Option β:=(iQ kt x l).bind λi=>(l[i]?).map (·.2)
def e7{β:Type}(kt:Ty)(x:kt.den)(v:β)(l:List (kt.den×β)):List (kt.den×β):=
 match iQ kt x l with | some i=>l.set i (x,v) | none=>l++ [(x,v)]
def kg{β:Type}(kt:Ty)(x:kt.den)(l:List (kt.den×β)):List (kt.den×β):=
 match iQ kt x l with | some i=>l.eraseIdx i | none=>l
def aiO(k v k' v':Ty)(l:List (k.den×v.den)):Option (List (k'.den×v'.den)):=if h:k=k'/\v=v' then ao (h.1▸h.2▸l) else aJ
def AS.ql(s:AS)(id:Id)(ver:Nat)(kt vt:Ty):Out (List (kt.den×vt.den)):=
 match s.obj id with
 |some (v,_,.mp k' v' l)=> .guard (v==ver) (Out.opt (aiO k' v' kt vt l))
 |_=> .fail
def AS.ua(s:AS)(id:Id):Bool:=match s.obj id with | some (_,fr,_)=> !fr | none=>aR
def aCG(vt:Ty)(ok:Bool)(r:Option vt.den):aD:=
 match ok with
 |true=> .cons (.d vt (r.getD vt.zero)) (.cons (.d .bool r.isSome) .nil)
 |false=> .d vt (r.getD vt.zero)
def FD(P:aM)(s:AS)(dst:Option Tmp)(T:TypeId):Out AS:=
 match mapOf P T,dst with
 |some (_,_,kt,vt),ao q=> .guard (s.ez q) (.ok ((s.born q [.obj 0 aR (.mp kt vt [])]).put dst (.cO (.new q 0) 0)))
 |_,_=> .fail
def Dx(P:aM)(s:AS)(T:TypeId)(m k:aD)(ok:Bool):Out aD:=
 match mapOf P T,m with
 |some (_,_,kt,vt),.cO id ver=>(s.ql id ver kt vt).bind λl=>(qn kt k).bind λk=> .ok (aCG vt ok (cd kt k l))
 |_,_=> .fail
def DC(P:aM)(s:AS)(T:TypeId)(m k v:aD):Out AS:=
 match mapOf P T,m with
 |some (_,_,kt,vt),.cO id ver=>(s.ql id ver kt vt).bind λl=>(qn kt k).bind λk=>(qn vt v).bind λv=> .guard (s.ua id) (.ok (s.aZ id (.obj ver aR (.mp kt vt (e7 kt k v l)))))
 |_,_=> .fail
def DB(P:aM)(s:AS)(T:TypeId)(m k:aD):Out AS:=
 match mapOf P T,m with
 |some (_,_,kt,vt),.cO id ver=>(s.ql id ver kt vt).bind λl=>(qn kt k).bind λk=> .guard (s.ua id) (.ok (s.aZ id (.obj ver aR (.mp kt vt (kg kt k l)))))
 |_,_=> .fail
def AS.afU(s:AS)(id:Id)(ver:Nat):Bool:=match s.obj id with | some (v,aT,.mp ..)=>v==ver | _=>aR
def dU.avq(q:Id):dU->Bool
 | .obj _ _ (.qo q' ver _ _ _ _)=>decide (q'=q) && !(ver==0)
 |_=>aR
def AS.VN(s:AS)(q:Id):Bool:=s.cn.any (dU.avq q) || s.news.any λes=>es.any (dU.avq q)
def pR(kt vt:Ty)(l:List (kt.den×vt.den))(j:Nat):kt.den×vt.den:=l.getD j (kt.zero,vt.zero)
def OU(P:aM)(s:AS)(dst:Option Tmp)(T:TypeId)(m:aD):Out AS:=
 match mapOf P T,m,dst with
 |some (_,_,kt,vt),.cO id ver,ao q=>(s.ql id ver kt vt).bind λl=> .guard (s.ua id && s.ez q)
   (.ok (((s.aZ id (.obj ver aT (.mp kt vt l))).born q [.obj 0 aR (.qo id (ver+1) kt vt l aJ)]).put dst (.ptr (.new q 0) 0 [] 0)))
 |_,_,_=> .fail
structure anT where
 i:Id
 v:Nat
 fr:Bool
 q:Id
 vr:Nat
 kt:Ty
 vt:Ty
 rest:List (kt.den×vt.den)
 cur:Option (kt.den×vt.den)
def AS.avp(s:AS)(x:aD):Option anT:=
 match x with
 | .ptr i ver [] 0=>match s.obj i with
  |some (v,fr,.qo q (vr+1) kt vt rest cur)=>match v==ver,s.afU q vr with
   |true,aT=>ao ⟨i,v,fr,q,vr,kt,vt,rest,cur⟩
   |_,_=>aJ
  |_=>aJ
 |_=>aJ
def ai6(s:AS)(x:aD):Out aD:=
 match s.avp x with
 |some ⟨_,_,_,_,_,kt,vt,_,ao c⟩=> .ok (.cons (.d kt c.1) (.cons (.d vt c.2) .nil))
 |_=> .fail
def AS.drawn(s:AS)(t:anT)(dst:Option Tmp)(j:Nat):AS:=(s.aZ t.i (.obj t.v t.fr (.qo t.q (t.vr+1) t.kt t.vt (t.rest.eraseIdx j) (ao (pR t.kt t.vt t.rest j))))).put dst (.cons (.d .bool aT) (.cons (.d t.kt (pR t.kt t.vt t.rest j).1) (.cons (.d t.vt (pR t.kt t.vt t.rest j).2) .nil)))
def AS.unlock(s:AS)(id:Id):AS:=match s.obj id with | some (v,_,c)=>s.aZ id (.obj v aR c) | none=>s
def AS.aAX(s:AS)(t:anT)(dst:Option Tmp):Option AS:=
 match(s.aZ t.i (.obj t.v t.fr (.qo t.q 0 t.kt t.vt [] aJ))).VN t.q with
 |false=>ao (((s.aZ t.i (.obj t.v t.fr (.qo t.q 0 t.kt t.vt [] aJ))).unlock t.q).put dst (.cons (.d .bool aR) .nil))
 |true=>aJ
open Classical in
def adx{R:Type}(n:Nat)(k:Nat->Option R):Option R:=if h:∃r,0 < n/\∀j,j < n->k j=ao r then ao h.choose else aJ
open Classical in
def Rq{X R:Type}(S:X->Prop)(k:X->Option R):Option R:=if h:∃r,(∃x,S x)/\∀x,S x->k x=ao r then ao h.choose else aJ
def av5{R:Type}(s:AS)(dst:Option Tmp)(t:anT)(k:AS->Option R):Option R:=
 aS (decide (0 < t.rest.length)) (adx t.rest.length λj=>k (s.drawn t dst j)) (match s.aAX t dst with | some s'=>k s' | none=>aJ)
def AS.amG(s:AS)(ids:List Id):Bool:=ids.all λid=>(s.obj id).isSome && s.Oy id
def AS.aus{R:Type}(s:AS)(en:Entry)(dst:Option Tmp)(ids:List Id)(vs:List aD)(k:AS->Option R):Option R:=Rq (en.set (vs.map (aD.iJ (s.wi ids))) (ids.map (s.mz ids))) λx=>((en.sp x).bind λx=>s.back ids dst (en.out (vs.map (aD.iJ (s.wi ids))) (ids.map (s.mz ids)) x)).run k
def AS.aeq{R:Type}(s:AS)(en:Entry)(dst:Option Tmp)(vs:List aD)(k:AS->Option R):Option R:=((s.conv en.params vs).bind λr=> .guard ((s.bt r.2).amG ((s.bt r.2).Zf r.1)) (.ok r)).run λr=>(s.bt r.2).aus en dst ((s.bt r.2).Zf r.1) r.1 k
def AS.aCd{R:Type}(s:AS)(en:Entry)(dst:Option Tmp)(vs:List aD)(k:AS->Option R):Option R:=
 match en.rel with | true=>s.aeq en dst vs k | false=>(s.call en dst vs).run k
def yB:Nat:=4294967296
def pE(P:aM)(Γ:qi)(bN:List Nat)(o:Oper)(s:AS):Out AS:=
 match o.op with
 | .move x=> .ok (s.put o.dst (s.ev x))
 | .assign x=> .ok (s.put o.dst (s.ev x))
 | .pick c a b=>(am9 (s.ev c) (s.ev a) (s.ev b)).bind λv=> .ok (s.put o.dst v)
 | .alloc T=>match zeroOf P depth T,o.dst with
  |some z,ao q=> .guard (s.ez q && adt P T z) (.ok ((s.born q [.obj 0 aR (boxed P T z)]).put o.dst (.ptr (.new q 0) 0 [] 0)))
  |_,_=> .fail
 | .box T x=>aei P s (isObj bN o.dst) (ajB bN o.dst) o.dst T (s.ev x)
 | .build T parts=>E4 P s o.dst T parts.toList
 | .buildSlice T n parts=>mw P s (apK bN o.dst) (isObj bN o.dst) o.dst T n parts.toList
 | .load T x=>(L8 P s T (s.ev x)).bind λv=> .ok (s.put o.dst v)
 | .store T x v=>(Gq P s T (s.ev x) (s.ev v)).bind λs'=> .ok (s'.put o.dst .undef)
 | .nilCheck x=>match s.ev x with
  | .ptr id v p n=> .ok (s.put o.dst (.ptr id v p n))
  | .eI t y=> .ok (s.put o.dst (.eI t y))
  | .d (.od t) y=> .get (y:Option t.den) λy=> .ok (s.put o.dst (.eI t y))
  | .d (.gN t) y=> .get (y:Option (Nat×t.den)) λy=> .ok (s.put o.dst (.eI t y.2))
  | .fn f c=> .ok (s.put o.dst (.fn f c))
  |_=> .fail
 | .binOp op T x y _=>match s.ev x,s.ev y with
  | .ptr i v [] 0,.ptr j w [] 0=>(aFn P s T op i v j w).bind λv=> .ok (s.put o.dst v)
  |_,_=>(aDe P T op (s.ev x) (s.ev y)).bind λv=> .ok (s.put o.dst v)
 | .unOp op _ x=>(aIg op (s.ev x)).bind λv=> .ok (s.put o.dst v)
 | .convert src dst x=>match src==dst,s.ev x with
  |true,.b8 id ver [] 0 0 len=>aew P s o.dst src dst id ver len
  |_,.ptr id ver [] 0=>(YK P s src dst id ver).bind λv=> .ok (s.put o.dst v)
  |_,_=>(YJ P s (isObj bN o.dst) src dst (s.ev x)).bind λv=> .ok (s.put o.dst v)
 | .sliceToArrayPointer T x=>Kg P s o.dst T (s.ev x)
 | .makeFunc (.func f) first caps=> .guard (first.isEmpty && zd (rB s caps.toList)) (.ok (s.put o.dst (.fn f (rB s caps.toList))))
 | .makeSlice T l c=>(asInt (s.ev l)).bind λl=>(asInt (s.ev c)).bind λc=>rM P s o.dst T l c
 | .slice T x lo hi aJ=>(Gn P s T (s.ev x) lo hi).bind λv=> .ok (s.put o.dst v)
 | .slice T x lo (ao h) (ao m)=>(Ng P s T (s.ev x) lo h m).bind λv=> .ok (s.put o.dst v)
 | .fieldAddr T x f=>(Ds P T (s.ev x) f).bind λv=> .ok (s.put o.dst v)
 | .field T x f=>(abk P T (s.ev x) f).bind λv=> .ok (s.put o.dst v)
 | .indexAddr T x i=>(asInt (s.ev i)).bind λi=>(rI P s T (s.ev x) i).bind λv=> .ok (s.put o.dst v)
 | .index T x i=>(asInt (s.ev i)).bind λi=>(abB P T (s.ev x) i).bind λv=> .ok (s.put o.dst v)
 | .extract x i=>(Out.opt ((s.ev x).list[i]?)).bind λv=> .ok (s.put o.dst v)
 | .makeMap T aJ=>FD P s o.dst T
 | .lookup T x i ok=>(Dx P s T (s.ev x) (s.ev i) ok).bind λv=> .ok (s.put o.dst v)
 | .mapUpdate T m k x=>(DC P s T (s.ev m) (s.ev k) (s.ev x)).bind λs'=> .ok (s'.put o.dst .undef)
 | .range T m=>OU P s o.dst T (s.ev m)
 | .call c=>match c.callee with
  | .builtin .delete=>match c.args.toList,c.argTypes.toList with
   |[m,k],[T,_]=>(DB P s T (s.ev m) (s.ev k)).bind λs'=> .ok (s'.put o.dst .nil)
   |_,_=> .fail
  | .builtin .copy=>match c.args.toList,c.argTypes.toList with
   |[x,y],[T,X]=>S6 P s o.dst T X (s.ev x) (s.ev y)
   |_,_=> .fail
  | .builtin .len=>match c.args.toList,c.argTypes.toList with
   |[x],[T]=>(aAx P T (s.ev x)).bind λv=> .ok (s.put o.dst v)
   |_,_=> .fail
  | .builtin .append=>match c.args.toList,c.argTypes.toList with
   |[x,y],[T,X]=>match s.ev x,s.ev y with
    | .dH,.d (.int _) n=>afl P s o.dst T X n
    |_,_=>w9 P s (apK bN o.dst) (ajB bN o.dst) o.dst T X (s.ev x) (s.ev y)
   |_,_=> .fail
  | .builtin .cap=>match c.args.toList,c.argTypes.toList with
   |[x],[T]=>match s.ev x,P.underlying T with
    | .dH,ao (.slice _)=> .ok (s.put o.dst (.d (.int .i64) (0:Int)))
    |_,_=> .fail
   |_,_=> .fail
  | .builtin .max=>(ap9 aT (c.args.toList.map s.ev)).bind λv=> .ok (s.put o.dst v)
  | .builtin .min=>(ap9 aR (c.args.toList.map s.ev)).bind λv=> .ok (s.put o.dst v)
  | .builtin .unsafeSliceData=>match c.args.toList with
   |[x]=>match s.ev x with
    | .b8 id ver [] 0 0 len=> .ue (decide (0 < len)) (.ok (s.put o.dst (.ptr id ver [.idx 0] 0)))
    |_=> .fail
   |_=> .fail
  | .builtin .unsafeString=>match c.args.toList,c.argTypes.toList with
   |[x,y],[T,_]=>match s.ev x,s.ev y with
    | .ptr id ver [.idx 0] 0,.d (.int .i64) n=>ahC P s o.dst T id ver n
    |_,_=> .fail
   |_,_=> .fail
  | .value f=>match s.ev f with
   | .fn f caps=>match Γ f (c.args.toList.map s.ev++caps.list) with
    |some en=> .guard (Nat.blt f yB) (s.call en o.dst (c.args.toList.map s.ev++caps.list))
    |none=> .fail
   |_=> .fail
  |_=> .fail
 |_=> .fail
def Si(xs:Array bK):List Nat:=xs.toList.filterMap λ | .tmp t=>ao t | _=>aJ
def Oh(ops:Array Oper)(o:Oper):List Nat:=
 match o.guard with
 |some (j,_)=>match(ops[j]?).bind (·.dst) with | some t=> [t] | none=> []
 |none=> []
def azX{R:Type}(P:aM)(Γ:qi)(bN:List Nat)(ops:Array Oper)(o:Oper)(s:AS)(k:AS->Option R):Option R:=
 match o.guard with
 |none=>(pE P Γ bN o s).run k
 |some (j,want)=>match(ops[j]?).bind (·.dst) with
  |some q=>match s.slot q with
   | .d .bool b=>match want with
    |true=>aS b ((pE P Γ bN o (s.put (ao q) (.d .bool aT))).run k) (k ((s.put (ao q) (.d .bool aR)).put o.dst .nil))
    |false=>aS b (k ((s.put (ao q) (.d .bool aT)).put o.dst .nil)) ((pE P Γ bN o (s.put (ao q) (.d .bool aR))).run k)
   | .nil=>k (s.put o.dst .nil)
   |_=>aJ
  |none=>aJ
def UU(s:AS)(x y:bK):Option Nat:=
 match s.ev x,s.ev y with
 | .d (.slice t) l,.dH=>ao (l:List t.den).length
 | .dH,.d (.slice t) l=>ao (l:List t.den).length
 | .b8 _ _ _ _ _ len,.dH=>ao len
 | .dH,.b8 _ _ _ _ _ len=>ao len
 |_,_=>aJ
open Classical in
def nd{R:Type}(x y:Option R):Option R:=if x=y then x else aJ
def Q2:Code->List (Array Tmp×Code×Code)
 | .seq a b=>Q2 a++Q2 b
 | .cond _ a b=>Q2 a++Q2 b
 | .block _ b=>Q2 b
 | .scope b=>Q2 b
 | .loop b=>Q2 b
 | .rangeFunc _ ps as b=> [(ps,as,b)]
 |_=> []
def aJJ(fn:Func)(i y:Nat):uk:=match fn.body with
 |some c=>match(Q2 c)[i]? with
  |some x=>⟨y,x.1,x.2.1,x.2.2⟩
  |none=>⟨y,#[],.skip,.skip⟩
 |none=>⟨y,#[],.skip,.skip⟩
def VW(P:aM)(y:Nat):uk:=match P.funcs[y%yB / 16]? with
 |some fn=>aJJ fn (y%16) y
 |none=>⟨y,#[],.skip,.skip⟩
open Classical in
def same{R:Type}(c c':uk)(x:Option R):Option R:=if c=c' then x else aJ
def AS.yielded(s:AS)(F:aD)(n:Nat):Option (Id×Nat×uk×aD):=
 match F with
 | .yl id ver=>match s.obj id with
  |some (v,aR,.yZ c f 0)=>match v==ver && n==c.ps.size && Nat.ble yB c.y with
   |true=>ao (id,ver,c,f)
   |false=>aJ
  |_=>aJ
 |_=>aJ
def aCT(Γ:qi)(F:aD)(vs:List aD):Option (Entry×List aD):=
 match F with
 | .fn f caps=>match Γ f (vs++caps.list) with
  |some en=>match en.rel && Nat.blt f yB with | true=>ao (en,vs++caps.list) | false=>aJ
  |none=>aJ
 |_=>aJ
def azY{R:Type}(P:aM)(Γ:qi)(bN:List Nat)(ops:Array Oper)(o:Oper)(s:AS)(k:AS->Option R):Option R:=
 match o.guard,o.op with
 |none,.binOp .eql T x y _=>match UU s x y,xM.isSl P T with
  |some n,aT=>aS (decide (0 < n)) (k (s.put o.dst (.d .bool aR))) (nd (k (s.put o.dst (.d .bool aT))) (k (s.put o.dst (.d .bool aR))))
  |_,_=>azX P Γ bN ops o s k
 |none,.binOp .neq T x y _=>match UU s x y,xM.isSl P T with
  |some n,aT=>aS (decide (0 < n)) (k (s.put o.dst (.d .bool aT))) (nd (k (s.put o.dst (.d .bool aT))) (k (s.put o.dst (.d .bool aR))))
  |_,_=>azX P Γ bN ops o s k
 |none,.range T m=>(OU P s o.dst T (s.ev m)).run k
 |none,.entry x=>((ai6 s (s.ev x)).bind λv=> .ok (s.put o.dst v)).run k
 |none,.next x aR=>match s.avp (s.ev x) with
  |some t=>av5 s o.dst t k
  |none=>aJ
 |none,.call c=>match c.callee with
  | .value F=>match s.yielded (s.ev F) c.args.size with
   |some (id,ver,rc,f)=>match Γ rc.y (.yl id ver::(c.args.toList.map s.ev++f.list)) with
    |some en=>same rc (VW P rc.y) ((s.call en o.dst (.yl id ver::(c.args.toList.map s.ev++f.list))).run k)
    |none=>aJ
   |none=>match aCT Γ (s.ev F) (c.args.toList.map s.ev) with
    |some (en,vs)=>s.aeq en o.dst vs k
    |none=>azX P Γ bN ops o s k
  |_=>azX P Γ bN ops o s k
 |_,_=>azX P Γ bN ops o s k
def seen{α R:Type}(l:List α):(List α->R)->R:=List.rec (motive:=λ_=>(List α->R)->R) (λk=>k []) (λx _ ih k=>ih λl'=>k (x::l')) l
theorem M9{α R:Type}:∀(l:List α) (k:List α->R),seen l k=k l
 |[],_=>rfl
 |_::l,k=>M9 l _
def AS.seen{R:Type}(s:AS)(k:AS->R):R:=Go.Ab.seen s.ct λl=>k ⟨l,s.cn,s.news⟩
theorem AS.M9{R:Type}(s:AS)(k:AS->R):s.seen k=k s:=Go.Ab.M9 _ _
def azZ{R:Type}(P:aM)(Γ:qi)(bN:List Nat)(ops:Array Oper):List Oper->AS->(AS->Option R)->Option R
 |[],s,k=>k s
 |o::l,s,k=>azY P Γ bN ops o s λs'=>s'.seen λs'=>azZ P Γ bN ops l s' k
def aan(acc:List Nat)(o:Oper):Nat:=(o.after.toList.filter (Region.binds .any)).foldr (λe m=>Nat.lor (Nat.lor (Nat.pow 2 e.on) (acc.getD e.on 0)) m) 0
def adP(ops:List Oper):List Nat:=ops.foldl (λacc o=>acc++ [aan acc o]) []
structure ER where
 dst:Option Tmp
 ct:List Nat
 rs:List Id
 ws:List Id
def Zj:Op->Bool
 | .move _=>aT
 |_=>aR
def agn(s:AS)(o:Oper):List Id:=match Zj o.op with | true=> [] | false=>(Si o.op.operands).flatMap λi=>(s.slot i).ids
def u6:List (Option Ty)->List aD->List Id
 |none::ps,v::vs=>v.ids++u6 ps vs
 |some _::ps,_::vs=>u6 ps vs
 |_,_=> []
def writes(Γ:qi)(s:AS)(o:Oper):List Id:=
 match o.op with
 | .store _ x _=>(s.ev x).ids
 | .mapUpdate _ m _ _=>(s.ev m).ids
 | .range _ m=>(s.ev m).ids
 | .convert src dst x=>match src==dst with | true=>(s.ev x).ids | false=> []
 | .call c=>match c.callee with
  | .builtin .append=>match c.args.toList with | x::_=>(s.ev x).ids | []=> []
  | .builtin .delete=>match c.args.toList with | x::_=>(s.ev x).ids | []=> []
  | .builtin .copy=>match c.args.toList with | x::_=>(s.ev x).ids | []=> []
  | .builtin .unsafeString=>match c.args.toList with | x::_=>(s.ev x).ids | []=> []
  | .value F=>match s.ev F with
   | .fn f caps=>match Γ f (c.args.toList.map s.ev++caps.list) with
    |some en=>s.reach 64 (u6 en.params (c.args.toList.map s.ev++caps.list)) []
    |none=> []
   |_=> []
  |_=> []
 |_=> []
def gK(Γ:qi)(ops:Array Oper)(s:AS)(o:Oper):ER:= {dst:=o.dst,ct:=Si o.op.operands++Oh ops o,rs:=agn s o++writes Γ s o,ws:=writes Γ s o}
def meets(xs ys:List Id):Bool:=xs.any λx=>ys.any λy=>decide (x=y)
def ER.aGx(f g:ER):Bool:=
 match f.dst with
 |some t=>(g.ct.any λx=>decide (x=t)) || decide (g.dst=ao t)
 |none=>aR
def We(d:Option Tmp)(ids:List Id):Bool:=
 match d with
 |some q=>ids.any λx=>match x with | .new i _=>decide (i=q) | .bF _=>aR
 |none=>aR
def ER.indep(f g:ER):Bool:= !f.aGx g && !g.aGx f && !meets f.ws g.rs && !meets g.ws f.rs && !We f.dst g.rs && !We g.dst f.rs
def Y5{R:Type}(P:aM)(Γ:qi)(bN:List Nat)(ops:Array Oper)(anc:List Nat):Nat->List Oper->List (Nat×ER)->AS->(AS->Option R)->Option R
 |_,[],_,s,k=>k s
 |i,o::l,fs,s,k=>
  match fs.all λx=>(anc.getD i 0).testBit x.1 || x.2.indep (gK Γ ops s o) with
  |true=>azX P Γ bN ops o s λs'=>s'.seen λs'=>Y5 P Γ bN ops anc (i+1) l ((i,gK Γ ops s o)::fs) s' k
  |false=>aJ
def aa8(ops:List Oper):Bool:=ops.zipIdx.all λx=>x.1.after.toList.all λe=> !Region.binds .any e || decide (e.on < x.2)
structure asB where
 j:Nat
 p:List Hw
 q:Nat
 T:TypeId
structure aHG where
 j:Nat
 p:List Hw
 t:Ty
structure nU where
 bp:List Nat:=[]
 sites:List Nat:=[]
 amn:List Id:=[]
 data:List (Nat×Ty):=[]
 owns:List asB:=[]
 Lu:List aHG:=[]
 aEo:List Nat:=[]
 aDr:List Id:=[]
 aKh:List Nat:=[]
 aKS:List Nat:=[]
 aCb:List (Nat×Nat):=[]
 aKZ:Option Nat:=aJ
structure dW where
 X:Type
 run:AS->Option X
 out:X->Out (Exit×AS)
 set:Option (AS->X->Prop):=aJ
structure Ky where
 an:nU
 X:Type
 aEk:Exit->AS->Option X
 out:X->Out (Exit×AS)
 ok:∀e s x,aEk e s=ao x->(out x).eval=ao (e,s)
structure aFO where
 j:Nat
 t:Ty
 r:Nat
def hJ:(t:Ty)->t.den->List Nat
 | .gN t,x=>match(x:Option (Nat×t.den)) with | some p=>p.1::hJ t p.2 | none=> []
 | .slice t,x=>(x:List t.den).flatMap (hJ t)
 | .arr _ t,x=>(x:List t.den).flatMap (hJ t)
 | .pair a b,x=>hJ a x.1++hJ b x.2
 | .fS t,x=>((x:Option (List t.den)).getD []).flatMap (hJ t)
 | .od t,x=>match(x:Option t.den) with | some y=>hJ t y | none=> []
 | .int _,_ | .bool,_ | .str,_ | .unit,_=> []
def AS.OH(s:AS):aD->List Nat
 | .d t x=>hJ t x
 | .b8 id _ _ _ _ _=>match s.obj id with | some (_,_,.vec _ t l)=>(l:List t.den).flatMap (hJ t) | _=> []
 |_=> []
def aD.aFT:aD->Bool
 | .vec .. | .mp .. | .qo .. | .yZ .. =>aR
 |_=>aT
def awb{R:Type}(s:AS)(x:aFO)(k:AS->Option R):Option R:=
 match s.slot x.j with
 | .ptr id ver [] 0=>match s.obj id with
  |some (v,aR,c)=>((s.iK x.t c.strip).bind λy=> .guard ((v==ver) && c.aFT && !c.strip.shared.contains id) (.ok y)).run λy=>
    Rq (λn=>n ∉ s.OH (s.slot x.r)) λn=>k (((s.bt c.strip.shared).freeze id).put (ao x.j) (.d (.gN x.t) (ao (n,y))))
  |_=>aJ
 |_=>aJ
def awc{R:Type}:List aFO->AS->(AS->Option R)->Option R
 |[],s,k=>k s
 |x::l,s,k=>awb s x λs'=>awc l s' k
structure w7 where
 bN:List Nat:=[]
 loops:Nat->nU:=λ_=> {}
 outs:Nat->Bool->nU:=λ_ _=> {}
 gS:Nat->Option dW:=λ_=>aJ
 owns:List asB:=[]
 trim:List Nat:=[]
 res:List (Option Ty):=[]
 Lu:List aHG:=[]
 aCD:Nat->Option Ky:=λ_=>aJ
 aCE:Nat->Option Ky:=λ_=>aJ
 rf:Nat->Option (Nat×List Nat):=λ_=>aJ
 aLQ:Nat->Option (List asB):=λ_=>aJ
 qG:Option Nat:=aJ
 aCb:List (Nat×Nat):=[]
 RD:Nat->List aFO:=λ_=> []
def dV:Code->Nat
 | .region id _ _=>id
 | .seq a _=>dV a
 | .block _ b=>dV b
 | .loop b=>dV b
 | .scope b=>dV b
 | .cond _ a b=>match dV a with | 0=>dV b | n=>n
 |_=>0
def eV(bp:List Nat):Nat->List aD->List aD
 |_,[]=> []
 |i,v::vs=>(match bp.any (λx=>decide (x=i)) with | true=>v | false=> .undef)::eV bp (i+1) vs
def nJ(bp:List Nat):Nat->List (List dU)->List (List dU)
 |_,[]=> []
 |i,v::vs=>(match bp.any (λx=>decide (x=i)) with | true=>v | false=> [])::nJ bp (i+1) vs
def aD.head:aD->Option (Id×Nat)
 | .b8 id ver [] 0 0 _=>ao (id,ver)
 | .ptr id ver [] 0=>ao (id,ver)
 |_=>aJ
def MV(es:List dU)(b q:Nat)(i:Id)(ver:Nat):Option (Id×Nat):=
 match i with
 | .bF k=>ao (.bF k,ver)
 | .new x j=>match decide (x=b) with
  |true=>(match es[j]? with | some (.obj v _ _)=>(match ver==v with | true=>ao (.new q j,0) | false=>aJ) | _=>aJ)
  |false=>(match decide (x=q) with | true=>aJ | false=>ao (.new x j,ver))
def dU.akM(ρ:Id->Nat->Option (Id×Nat)):dU->dU
 | .obj _ fr c=> .obj 0 fr (c.iJ ρ)
 | .dead=> .dead
def aD.arh(ρ:Id->Nat->Option (Id×Nat))(kp:Id->Bool):aD->aD
 | .qo q ver k v rest cur=>match kp q with | true=> .qo q ver k v rest cur | false=> .qo q 0 k v rest cur
 |c=>c.iJ ρ
def dU.XS(ρ:Id->Nat->Option (Id×Nat))(kp:Id->Bool):dU->dU
 | .obj v fr c=> .obj v fr (c.arh ρ kp)
 | .dead=> .dead
def Hj(b q:Nat):Id->Bool | .bF _=>aT | .new x _=> !decide (x=b) && !decide (x=q)
def AS.Gd(s:AS)(b q:Nat)(es:List dU):AS:= {ct:=s.ct.map (aD.iJ (MV es b q)),cn:=s.cn.map (dU.XS (MV es b q) (Hj b q)),news:=((s.news.map λes'=>es'.map (dU.XS (MV es b q) (Hj b q))).set b []).set q (es.map (dU.akM (MV es b q)))}
def AS.at(s:AS)(j:Nat):List Hw->Out aD
 |[]=> .ok (s.slot j)
 |p=>match s.slot j with
  | .ptr id ver p0 _=>match s.obj id with
   |some (v,_,c)=> .guard (v==ver) ((loc c.strip (p0++p)).bind λr=> .ok r.2)
   |none=> .fail
  |_=> .fail
def AS.putAt(s:AS)(j:Nat)(v:aD):List Hw->Out AS
 |[]=> .ok (s.put (ao j) v)
 |p=>match s.slot j with
  | .ptr id _ p0 _=>match s.obj id with
   |some (ver,fr,c)=>match c.strip with
    | .vec .. => .fail
    |c1=>(w6 c1 (p0++p) v).bind λc'=> .ok (s.aZ id (.obj ver fr (c.wrap c')))
   |none=> .fail
  |_=> .fail
def AS.still(s:AS):List Nat->AS
 |[]=>s
 |q::l=>(match s.obj (.new q 0) with | some (v,fr,.qo i ver k t r _)=>s.aZ (.new q 0) (.obj v fr (.qo i ver k t r aJ)) | _=>s).still l
def ZC(α:Type):Setoid (List α):=⟨List.Perm,oo,List.Perm.symm,List.Perm.trans⟩
def eP{α:Type}(l:List α):List α:=(qj (Quotient.mk (ZC α) l)).choose
def AS.canon(s:AS):List Id->AS
 |[]=>s
 |id::l=>(match s.obj id with | some (v,fr,.mp k t r)=>s.aZ id (.obj v fr (.mp k t (eP r))) | _=>s).canon l
def PX(s:AS):List aHG->Out AS
 |[]=> .ok s
 |o::l=>match o.p,s.slot o.j with
  |_::_,.kh=>PX s l
  |_,_=>(s.at o.j o.p).bind λu=>(s.iK o.t u).bind λx=>((s.bt u.shared).putAt o.j (.d o.t x) o.p).bind λs'=>PX s' l
def Js:(t:Ty)->t.den->Out aD
 | .fS t,x=> .ue (x:Option (List t.den)).isNone (.ok .dH)
 | .pair a b,x=>(Js a x.1).bind λu=>(Js b x.2).bind λv=> .ok (Me u v)
 |t,x=> .ok (.d t x)
def api(s:AS):List Nat->Out AS
 |[]=> .ok s
 |j::l=>match s.slot j with
  | .ptr id ver (.idx k::p) n=>match s.obj id with
   |some (v,aR,.vec e t r)=> .guard (v==ver) (.ue (decide (k < r.length)) ((Js t (nth t r k)).bind λu=>
     api ((s.aZ id (.obj v aR (.bx e t.size (.pr (.d (.arr k t) (r.take k)) (.pr u (.d (.arr (r.drop (k+1)).length t) (r.drop (k+1)))))))).put (ao j) (.ptr id ver (.snd:: .fst::p) n)) l))
   |_=> .fail
  | .ptr _ _ (.snd::_) _=>api s l
  |_=> .fail
def ayy(s:AS):List Nat->Out AS
 |[]=> .ok s
 |j::l=>match s.slot j with
  | .ptr id ver (.snd:: .fst::p) n=>match s.obj id with
   |some (v,aR,.bx e z (.pr (.d (.arr k t) l1) (.pr u (.d (.arr _ t') l2))))=> .guard ((v==ver) && (z==t.size) && !(z==0) && !(u.shared.any λi=>decide (i=id)))
     ((Out.opt (s9 (.slice t') (.slice t) l2)).bind λl2=>(s.iK t u).bind λx=>
      ayy (((s.bt u.shared).aZ id (.obj v aR (.vec e t (l1++x::l2)))).put (ao j) (.ptr id ver (.idx k::p) n)) l)
   |_=> .fail
  |_=> .fail
def vl(P:aM)(s:AS):List asB->Out AS
 |[]=> .ok s
 |o::l=>match o.p,s.slot o.j with
  |_::_,.kh=>vl P s l
  |_,_=>(s.at o.j o.p).bind λu=>match u with
  | .dH=>match aa9 P o.T,s.ez o.q with
   |some (e,t,_),aT=>((s.born o.q [.obj 0 aR (.vec e t [])]).putAt o.j (.b8 (.new o.q 0) 0 [] 0 0 0) o.p).bind λs'=>vl P s' l
   |_,_=> .fail
  |u=>match u.head with
   |some (.new b j,ver)=>match s.obj (.new b j),decide (o.q < s.news.length) with
    |some (v,_,_),aT=>match v==ver with
     |true=>vl P (s.Gd b o.q (s.news.getD b [])) l
     |false=> .fail
    |_,_=> .fail
   |_=> .fail
def Z9(s:AS):List Nat->Out AS
 |[]=> .ok s
 |j::l=>match s.slot j with
  | .b8 id ver [] 0 0 len=>match s.obj id with
   |some (v,aR,.vec e t r)=>match v==ver with
    |true=> .ue (decide (len<=r.length)) (Z9 (s.aZ id (.obj v aR (.vec e t (r.take len)))) l)
    |false=> .fail
   |_=> .fail
  |_=> .fail
def asData(s:AS):List (Nat×Ty)->Out AS
 |[]=> .ok s
 | (j,t)::l=>(s.iK t (s.slot j)).bind λx=>asData ((s.bt (s.slot j).shared).put (ao j) (.d t x)) l
def aD.there(s:AS):aD->Bool
 | .ptr id _ _ _=>(s.obj id).isSome
 | .b8 id _ _ _ _ _=>(s.obj id).isSome
 | .pr a b=>a.there s && b.there s
 | .cons a b=>a.there s && b.there s
 | .fn _ c=>c.there s
 | .bx _ _ c=>c.there s
 | .cO id _=>(s.obj id).isSome
 | .yl id _=>(s.obj id).isSome
 | .yZ _ f _=>f.there s
 | .qo .. =>aR
 |_=>aT
def dU.there(s:AS):dU->Bool
 | .obj _ _ (.qo id _ _ _ _ _)=>(s.obj id).isSome
 | .obj _ _ c=>c.there s
 | .dead=>aT
def LZ(an:nU)(s:AS):AS:= {ct:=eV an.bp 0 s.ct,cn:=s.cn,news:=nJ an.sites 0 s.news}
def AS.adL(s:AS):Bool:=(s.ct.all (aD.there s)) && (s.cn.all (dU.there s)) && (s.news.all λes=>es.all (dU.there s))
def uh(k v n:Nat)(i:Id)(ver:Nat):Option (Id×Nat):=match i with
 | .bF j=>match iG j k with
  |true=>match iG ver v with | true=>ao (.bF j,n) | false=>aJ
  |false=>ao (.bF j,ver)
 |i=>ao (i,ver)
def Fq(k:Nat):Id->Bool | .bF j=> !iG j k | _=>aT
def dU.akN(ρ:Id->Nat->Option (Id×Nat))(kp:Id->Bool):dU->dU
 | .obj v fr c=> .obj v fr (c.arh ρ kp)
 | .dead=> .dead
def AS.atk(s:AS)(k n:Nat):Out AS:=match s.bU (.bF k) with
 |some (.obj v fr c)=> .guard (Nat.ble v n || Nat.ble 1 n) (.ok {ct:=s.ct.map (aD.iJ (uh k v n)),cn:=(s.cn.map (dU.akN (uh k v n) (Fq k))).set k (.obj n fr (c.iJ (uh k v n))),news:=s.news.map λes=>es.map (dU.akN (uh k v n) (Fq k))})
 |_=> .fail
def aen(s:AS):List (Nat×Nat)->Out AS
 |[]=> .ok s
 |x::l=>(s.atk x.1 x.2).bind λs=>aen s l
def AS.aF1(s:AS):List Id:=(s.reach 64 (s.ct.flatMap aD.ids++s.cn.flatMap dU.ids) []).filter λid=>match id with | .new _ _=>aT | .bF _=>aR
def apr(s:AS)(ids:List Id)(q:Nat):Id->Nat->Option (Id×Nat)
 | .bF k,ver=>ao (.bF k,ver)
 | .new x y,ver=>match idxOf (.new x y) ids,s.obj (.new x y) with
  |some j,ao (v,_,_)=>match ver==v with | true=>ao (.new q j,0) | false=>aJ
  |_,_=>aJ
def dU.axt(ρ:Id->Nat->Option (Id×Nat)):dU->dU
 | .obj v fr c=> .obj v fr (c.iJ ρ)
 | .dead=> .dead
def AS.Fo(s:AS)(ids:List Id)(q:Nat):AS:= {ct:=s.ct.map (aD.iJ (apr s ids q)),cn:=s.cn.map (dU.axt (apr s ids q)),news:=(s.news.map λ_=> []).set q (ids.map λid=>((s.bU id).getD .dead).akM (apr s ids q))}
def AS.abo(s:AS):Option Nat->Out AS
 |none=> .ok s
 |some q=> .guard (Nat.blt q s.news.length) (.ok (s.Fo s.aF1 q))
def norm(P:aM)(an:nU)(s:AS):Out AS:=(aen s an.aCb).bind λs=>(ayy (((s.bt an.amn).still an.aEo).canon an.aDr) an.aKS).bind λs=>(PX s an.Lu).bind λs=>(asData s an.data).bind λs=> .guard (LZ an s).adL ((api (LZ an s) an.aKh).bind λs=>(vl P s an.owns).bind λs=>s.abo an.aKZ)
def Qh{R:Type}(nrm:AS->Out AS)(nrmX:Exit->AS->Out AS)(body:AS->(Exit->AS->Option R)->Option R):Nat->AS->(Exit->AS->Option R)->Option R
 | 0,_,_=>aJ
 |n+1,s,k=>body s λe s'=>match e with
  | .normal=>(nrm s').run λs1=>Qh nrm nrmX body n s1 k
  |e=>(nrmX e s').run (k e)
def afK:Exit->Bool | .ret=>aT | _=>aR
def ayz{R:Type}(le:dW)(s:AS)(k:Exit->AS->Option R):Option R:=
 match le.set with
 |none=>aq (le.run s) λx=>(le.out x).run λr=>k r.1 r.2
 |some S=>Rq (S s) λx=>(le.out x).run λr=>k r.1 r.2
def Ou{R:Type}(P:aM)(j:Option Ky)(run: {R:Type}->(Exit->AS->Option R)->Option R)(k:Exit->AS->Option R):Option R:=
 match j with
 |none=>run k
 |some j=>aq (run λe s=>(norm P j.an s).run (j.aEk e)) λx=>(j.out x).run λr=>k r.1 r.2
def K7:List aD->aD
 |[]=> .nil
 |a::l=> .cons a (K7 l)
def ag1(P:aM)(h:fK):Bool:=match P.funcs[h]? with
 |some fn=> !(fn.name== "runtime.NumGoroutine") && fn.body.isSome
 |none=>aR
def DR{R:Type}(P:aM)(Γ:qi)(an:w7)(s:AS)(f:bK)(ps:Array Tmp)(as b:Code)(k:Exit->AS->Option R):Option R:=
 match an.qG,an.rf (ps.getD 0 0),s.ev f with
 |none,ao (y,bp),.fn h caps=>match ag1 P h && s.ez (ps.getD 0 0) && Nat.blt (ps.getD 0 0) s.ct.length && Nat.blt h yB,Γ h (.yl (.new (ps.getD 0 0) 0) 0::caps.list) with
  |true,ao en=>((s.born (ps.getD 0 0) [.obj 0 aR (.yZ ⟨y,ps,as,b⟩ (K7 (eV bp 0 s.ct)) 0)]).put (ao (ps.getD 0 0)) (.yl (.new (ps.getD 0 0) 0) 0)).aCd en aJ (.yl (.new (ps.getD 0 0) 0) 0::caps.list) λs3=>
   match s3.bU (.new (ps.getD 0 0) 0),s3.slot (ps.getD 0 0) with
   |some (.obj 0 aR (.yZ _ _ p)),.yl (.new q' 0) 0=>match iG q' (ps.getD 0 0),p with
    |true,0=>k .normal ((s3.aZ (.new (ps.getD 0 0) 0) .dead).put (ao (ps.getD 0 0)) .undef)
    |true,2=>k .ret ((s3.aZ (.new (ps.getD 0 0) 0) .dead).put (ao (ps.getD 0 0)) .undef)
    |true,i+3=>k (.exit i) ((s3.aZ (.new (ps.getD 0 0) 0) .dead).put (ao (ps.getD 0 0)) .undef)
    |_,_=>aJ
   |_,_=>aJ
  |_,_=>aJ
 |_,_,_=>aJ
def ev(P:aM)(Γ:qi)(an:w7)(N:Nat):Code-> {R:Type}->AS->(Exit->AS->Option R)->Option R
 | .skip,_,s,k=>k .normal s
 | .region id ops draw,_,s,k=>awc (an.RD id) s λs=>Ou P (an.aCD id) (λk=>match draw with
  |true=>(match aa8 ops.toList with
   |true=>Y5 P Γ an.bN ops (adP ops.toList) 0 ops.toList [] s λs'=>k .normal s'
   |false=>aJ)
  |false=>azZ P Γ an.bN ops ops.toList s λs'=>k .normal s') k
 | .seq a b,_,s,k=>Ou P (an.aCE (dV b)) (λk=>ev P Γ an N a s k) λe s'=>match e with | .normal=>ev P Γ an N b s' k | e=>k e s'
 | .cond c x y,_,s,k=>match s.ev c with
  | .d .bool b=>aS b (ev P Γ an N x s k) (ev P Γ an N y s k)
  |_=>aJ
 | .block id b,_,s,k=>ev P Γ an N b s λe s'=>match e with | .exit i=>(match decide (i=id) with | true=>k .normal s' | false=>k (.exit i) s') | e=>k e s'
 | .loop b,_,s,k=>(norm P (an.loops (dV b)) s).run λs1=>match an.gS (dV b) with
  |some le=>ayz le s1 k
  |none=>Qh (norm P (an.loops (dV b))) (λe=>norm P (an.outs (dV b) (afK e))) (ev P Γ an N b) N s1 k
 | .scope b,_,s,k=>ev P Γ an N b s λe s'=>match e with | .goto _=>aJ | e=>k e s'
 | .label _,_,s,k=>k .normal s
 | .exit id,_,s,k=>k (.exit id) s
 | .ret,_,s,k=>k .ret s
 | .rangeFunc f ps as b,_,s,k=>(vl P s ((an.aLQ (ps.getD 0 0)).getD [])).run λs=>DR P Γ an s f ps as b k
 |_,_,_,_=>aJ
def VV(P:aM)(s:AS):ResultVar->Out aD
 | .tmp t=> .ok (s.slot t)
 | .cell a T=>L8 P s T (s.slot a)
def VU(P:aM)(s:AS)(r:ResultVar):Option Ty->Out (AS×aD)
 |none=>(VV P s r).bind λv=> .ok (s,v)
 |some t=>(VV P s r).bind λv=>(s.iK t v).bind λx=> .ok (s.bt v.shared,.d t x)
def MY(P:aM)(s:AS):List ResultVar->List (Option Ty)->Out (AS×aD)
 |[],_=> .ok (s,.nil)
 |r::rs,ts=>(VU P s r (ts.headD aJ)).bind λx=> .guard x.2.eQ ((MY P x.1 rs ts.tail).bind λy=> .ok (y.1,.cons x.2 y.2))
def acH(P:aM)(fn:Func)(ts:List (Option Ty))(s:AS):Out (AS×aD):=
 match fn.results.toList with
 |[r]=>VU P s r (ts.headD aJ)
 |rs=>MY P s rs ts
def jE:Code->List Code
 | .seq a b=>jE a++jE b
 | .cond _ a b=>jE a++jE b
 | .block _ b=>jE b
 | .scope b=>jE b
 | .loop b=>b::jE b
 |_=> []
def oK(fn:Func)(i:Nat):Code:=match fn.body with | some c=>(jE c).getD i .skip | none=> .skip
def Bw(P:aM)(Γ:qi)(an:w7)(N:Nat)(fn:Func)(i:Nat){R:Type}(s:AS)(kn:AS->Option R)(kx:Exit->AS->Option R):Option R:=
 ev P Γ an N (oK fn i) s λe s'=>match e with
  | .normal=>(norm P (an.loops (dV (oK fn i))) s').run kn
  |e=>(norm P (an.outs (dV (oK fn i)) (afK e)) s').run (kx e)
def Mb(P:aM)(Γ:qi)(an:w7)(N:Nat)(fn:Func)(i:Nat){R:Type}(n:Nat)(s:AS)(k:Exit->AS->Option R):Option R:=Qh (norm P (an.loops (dV (oK fn i)))) (λe=>norm P (an.outs (dV (oK fn i)) (afK e))) (ev P Γ an N (oK fn i)) n s k
def Id.aCC:Id->Bool | .new _ _=>aT | .bF _=>aR
def AS.Oc(s:AS)(v:aD):List Id:=(s.reach 64 (v.ids++s.cn.flatMap dU.ids) []).filter Id.aCC
def Jw(ids:List Id):Id->Nat->Option (Id×Nat)
 | .bF k,v=>ao (.bF k,v)
 |id,v=>match idxOf id ids with | some j=>ao (.new 0 j,v) | none=>aJ
def dU.fin(ids:List Id):dU->dU
 | .obj v fr c=> .obj v fr (c.iJ (Jw ids))
 | .dead=> .dead
def AS.aCg(s:AS)(ids:List Id)(v:aD):ig:= {val:=v.iJ (Jw ids),cn:=s.cn.map (dU.fin ids),news:=ids.map λid=>((s.bU id).getD .dead).fin ids}
def AS.fin(s:AS)(v:aD):ig:=s.aCg (s.Oc v) v
def start(fn:Func)(args:List aD)(cn:List dU):AS:= {ct:=args++ai (fn.ntmps - args.length) .undef,cn,news:=ai fn.ntmps []}
def axu(fn:Func):List Nat:=fn.results.toList.map λr=>match r with | .tmp t=>t | .cell a _=>a
def AS.drop(s:AS)(ks:List Nat):AS:= {ct:=eV ks 0 s.ct,cn:=s.cn,news:=s.news}
def finish(P:aM)(an:w7)(fn:Func)(s:AS):Out ig:=(PX s an.Lu).bind λs=>(vl P (s.drop (axu fn)) an.owns).bind λs=>(Z9 s an.trim).bind λs=>(aen s an.aCb).bind λs=>(acH P fn an.res s).bind λr=> .ok (r.1.fin r.2)
def aHE(P:aM)(y:Nat):Func:= {(default:Func) with body:=ao (.seq (VW P y).as (VW P y).b)}
def AS.OW(s:AS)(q p:Nat):Option AS:=match s.bU (.bF 0) with
 |some (.obj 0 aR (.yZ c f q'))=>(match iG q q' with | true=>ao (s.aZ (.bF 0) (.obj 0 aR (.yZ c f p))) | false=>aJ)
 |_=>aJ
def yG:List (Tmp×aD)->List aD->List aD
 |[],l=>l
 |x::xs,l=>yG xs (l.set x.1 x.2)
def Wl(ps:List Tmp)(args:List aD)(cn:List dU):AS:= {ct:=yG (ps.zip (args.take ps.length)) (args.drop ps.length),cn,news:=ai (args.drop ps.length).length []}
def aCf:Exit->Option Nat
 | .normal=>ao 0
 | .ret=>ao 2
 | .exit i=>ao (i+3)
 |_=>aJ
def aml(P:aM)(an:w7)(s:AS)(v:aD):Out ig:=(PX s an.Lu).bind λs=>(vl P (s.drop []) an.owns).bind λs=>(Z9 s an.trim).bind λs=>(aen s an.aCb).bind λs=> .ok (s.fin v)
def dU.first:dU->Bool
 | .obj v _ _=>iG v 0
 | .dead=>aT
def axK(P:aM)(Γ:qi)(an:w7)(N:Nat)(c:uk)(args:List aD)(cn:List dU){R:Type}(k:ig->Option R):Option R:=
 match args with
 | .yl (.bF 0) 0::args=>match cn.all dU.first with | false=>aJ | true=>ev P Γ an N c.as (Wl c.ps.toList args cn) λe s=>match e with
  | .normal=>aq (s.OW 0 1) λs=>ev P Γ an N c.b s λe s=>aq (aCf e) λp=>aq (s.OW 1 p) λs=>(aml P an s (.d .bool (iG p 0))).run k
  |_=>aJ
 |_=>aJ
def adT(P:aM)(Γ:qi)(an:w7)(N:Nat)(fn:Func)(args:List aD)(cn:List dU){R:Type}(k:ig->Option R):Option R:=
 match an.qG with
 |some y=>axK P Γ an N (VW P y) args cn k
 |none=>match fn.body with
 |some c=>match cn.all dU.first with | false=>aJ | true=>ev P Γ an N c (start fn args cn) λe s=>match e with
  | .normal=>(finish P an fn s).run k
  | .ret=>(finish P an fn s).run k
  |_=>aJ
 |none=>aJ
end Go.Ab
namespace Go.Ab
inductive Own where
 |eL
 |id (i:Id)
inductive lY where
 |free
 |own (o:Own) (k:Nat)
structure Pl where
 b:Nat
 cap:Nat
structure Env where
 w:bW
 g:Nat->lY
 β:Id->Option Pl
 s:Id->Option dU
def sM(g:Nat->lY)(b off:Nat):Prop:=match g b with | .free=>True | .own _ k=>off < k
def Env.has(E:Env)(b off:Nat)(v:Value):Prop:=E.w.cell? ⟨b,off,aJ⟩=ao v/\sM E.g b off
def bq{α:Type}(R:List Value->α->Prop):List Value->List α->Prop
 |cs,[]=>cs=[]
 |cs,x::xs=>∃c cs',cs=c++cs'/\R c x/\bq R cs' xs
def wW(E:Env)(a:Option Addr)(vs:List Value):Prop:=∀i v,vs[i]? =ao v->∃b off,a=ao ⟨b,off,aJ⟩/\E.has b (off+i) v
def cI(E:Env):(t:Ty)->List Value->t.den->Prop
 | .int k,cs,x=>cs=[.int k x]
 | .bool,cs,x=>cs=[.bool x]
 | .str,cs,x=>cs=[.string x]
 | .slice t,cs,l=>∃a cap vs,cs=[.slice a (l:List t.den).length cap]/\(l:List t.den).length<=cap/\(0 < (l:List t.den).length->a.isSome=aT)/\wW E a vs/\bq (cI E t) vs l
 | .unit,cs,_=>cs=[]
 | .pair a b,cs,x=>∃ca cb,cs=ca++cb/\cI E a ca x.1/\cI E b cb x.2
 | .arr n t,cs,l=>(l:List t.den).length=n/\bq (cI E t) cs l
 | .fS t,cs,x=>((x:Option (List t.den))=aJ->cs=[.slice aJ 0 0])/\∀l:List t.den,(x:Option (List t.den))=ao l->
   ∃a cap vs,cs=[.slice a l.length cap]/\l.length<=cap/\(0 < l.length->a.isSome=aT)/\wW E a vs/\bq (cI E t) vs l
 | .od t,cs,x=>((x:Option t.den)=aJ->cs=[.pointer aJ])/\∀y:t.den,(x:Option t.den)=ao y->
   ∃b off vs,cs=[.pointer (ao ⟨b,off,aJ⟩)]/\wW E (ao ⟨b,off,aJ⟩) vs/\cI E t vs y
 | .gN t,cs,x=>((x:Option (Nat×t.den))=aJ->cs=[.pointer aJ])/\∀y:Nat×t.den,(x:Option (Nat×t.den))=ao y->
   ∃ca T vs,cs=[.pointer (ao ⟨y.1,0,aJ⟩)]/\(E.g y.1= .free/\E.w.heap[y.1]? =ao (.cells ca T (0,0)))/\wW E (ao ⟨y.1,0,aJ⟩) vs/\cI E t vs y.2
section
variable {α:Type} {R R':List Value->α->Prop} {z:Nat}
theorem bq.mono(h:∀c x,R c x->R' c x):∀ {cs:List Value} {l:List α},bq R cs l->bq R' cs l
 |_,[],hc=>hc
 |_,_::_,⟨c,cs',e,hx,hr⟩=>⟨c,cs',e,h _ _ hx,bq.mono h hr⟩
theorem bq.length(h:∀c x,R c x->c.length=z):∀ {cs:List Value} {l:List α},bq R cs l->cs.length=l.length*z
 |cs,[],hc=>by have:cs=[]:=hc;simp[this]
 |_,x::xs,⟨c,cs',e,hx,hr⟩=>by rw[e,ak,h c x hx,bq.length h hr,aH,eM,ik,Nat.add_comm]
theorem bq.all{p:Value->Prop}(h:∀c x,R c x->∀v∈c,p v):∀ {cs:List Value} {l:List α},bq R cs l->∀v∈cs,p v
 |cs,[],hc,v,hv=>by have:cs=[]:=hc;simp[this]at hv
 |_,_::_,⟨c,cs',e,hx,hr⟩,v,hv=>by
  rw[e]at hv;rcases bC.1 hv with hv | hv
  ·exact h _ _ hx v hv
  ·exact bq.all h hr v hv
theorem bq.append:∀ {cs:List Value} {l:List α} {cs':List Value} {l':List α},bq R cs l->bq R cs' l'->bq R (cs++cs') (l++l')
 |cs,[],_,_,hc,h'=>by have:cs=[]:=hc;simpa[this]using h'
 |_,x::xs,_,_,⟨c,cs1,e,hx,hr⟩,h'=>⟨c,cs1++_,by rw[e,aO],hx,bq.append hr h'⟩
theorem bq.take(h:∀c x,R c x->c.length=z):∀ {cs:List Value} {l:List α} (n:Nat),bq R cs l->bq R (cs.take (n*z)) (l.take n)
 |cs,[],n,hc=>by have:cs=[]:=hc;simp[this,bq]
 |_,x::xs,0,_=>by simp[bq]
 |_,x::xs,n+1,⟨c,cs',e,hx,hr⟩=>by refine⟨c,cs'.take (n*z),?_,hx,bq.take h n hr⟩;rw[e,pB,h c x hx,eM,ik,bJ (by rw[h c x hx];omega),rr]
theorem bq.drop(h:∀c x,R c x->c.length=z):∀ {cs:List Value} {l:List α} (n:Nat),bq R cs l->bq R (cs.drop (n*z)) (l.drop n)
 |cs,[],n,hc=>by have:cs=[]:=hc;simp[this,bq]
 |_,x::xs,0,hc=>by simpa using hc
 |_,x::xs,n+1,⟨c,cs',e,hx,hr⟩=>by rw[e,jY,h c x hx,eM,ik,fZ (by rw[h c x hx];omega),rr];simpa using bq.drop h n hr
theorem bq.get(h:∀c x,R c x->c.length=z){cs:List Value}{l:List α}(hc:bq R cs l)(i:Nat)(hi:i < l.length):R ((cs.drop (i*z)).take z) l[i]:=by have h1:=bq.take h 1 (bq.drop h i hc);rw[aC hi]at h1;simp only[ik,List.take_succ_cons,fg]at h1;obtain⟨c,cs',e,hx,hr⟩:=h1;have:cs'=[]:=hr;rw[e,this,bP];exact hx
theorem bq.set(h:∀c x,R c x->c.length=z){cs:List Value}{l:List α}(hc:bq R cs l)(i:Nat)(hi:i < l.length){c:List Value}{x:α}(hx:R c x):
  bq R (cs.take (i*z)++c++cs.drop (i*z+c.length)) (l.set i x):=by
 rw[List.set_eq_take_append_cons_drop,if_pos hi,h c x hx];have h1:=bq.take h i hc;have h2:=bq.drop h (i+1) hc;rw[eM,ik]at h2;have h3:bq R (c++cs.drop (i*z+z)) (x::l.drop (i+1)):=⟨c,_,rfl,hx,h2⟩;rw[aO];exact bq.append h1 h3
theorem bq.one{c:List Value}{x:α}(h:R c x):bq R c [x]:=⟨c,[],by simp,h,rfl⟩
end
theorem cI.size{E:Env}:∀ {t:Ty} {cs:List Value} {x:t.den},cI E t cs x->cs.length=t.size
 | .int _,_,_,h=>by simp only[cI]at h;simp[h,Ty.size]
 | .bool,_,_,h=>by simp only[cI]at h;simp[h,Ty.size]
 | .str,_,_,h=>by simp only[cI]at h;simp[h,Ty.size]
 | .slice t,_,_,h=>by simp only[cI]at h;obtain⟨a,cap,vs,rfl,_⟩:=h;simp[Ty.size]
 | .unit,_,_,h=>by simp only[cI]at h;simp[h,Ty.size]
 | .pair a b,_,_,h=>by simp only[cI]at h;obtain⟨ca,cb,rfl,ha,hb⟩:=h;simp[Ty.size,cI.size ha,cI.size hb]
 | .arr n t,_,_,h=>by simp only[cI]at h;rw[bq.length (λc x hx=>cI.size hx) h.2,h.1,Ty.size]
 | .fS t,_,x,h=>by
  simp only[cI]at h;obtain⟨h1,h2⟩:=h;cases hx:(x:Option (List t.den)) with
  |none=>rw[h1 hx];rfl
  |some l=>obtain⟨a,cap,vs,rfl,_⟩:=h2 l hx;rfl
 | .od t,_,x,h=>by
  simp only[cI]at h;obtain⟨h1,h2⟩:=h;cases hx:(x:Option t.den) with
  |none=>rw[h1 hx];rfl
  |some l=>obtain⟨b,off,vs,rfl,_⟩:=h2 l hx;rfl
 | .gN t,_,x,h=>by
  simp only[cI]at h;obtain⟨h1,h2⟩:=h;cases hx:(x:Option (Nat×t.den)) with
  |none=>rw[h1 hx];rfl
  |some l=>obtain⟨ca,T,vs,rfl,_⟩:=h2 l hx;rfl
theorem cI.one{E:Env}:∀ {t:Ty} {cs:List Value} {x:t.den},cI E t cs x->∀c∈cs,c.oneCell'=aT
 | .int _,_,_,h=>by simp only[cI]at h;simp[h,dv]
 | .bool,_,_,h=>by simp only[cI]at h;simp[h,dv]
 | .str,_,_,h=>by simp only[cI]at h;simp[h,dv]
 | .slice t,_,_,h=>by simp only[cI]at h;obtain⟨a,cap,vs,rfl,_⟩:=h;simp[dv]
 | .unit,_,_,h=>by simp only[cI]at h;simp[h]
 | .pair a b,_,_,h=>by
  simp only[cI]at h;obtain⟨ca,cb,rfl,ha,hb⟩:=h;intro c hc;rcases bC.1 hc with hc | hc
  ·exact cI.one ha c hc
  ·exact cI.one hb c hc
 | .arr n t,_,_,h=>by simp only[cI]at h;exact bq.all (λc x hx=>cI.one hx) h.2
 | .fS t,_,x,h=>by
  simp only[cI]at h;obtain⟨h1,h2⟩:=h;cases hx:(x:Option (List t.den)) with
  |none=>rw[h1 hx];simp[dv]
  |some l=>obtain⟨a,cap,vs,rfl,_⟩:=h2 l hx;simp[dv]
 | .od t,_,x,h=>by
  simp only[cI]at h;obtain⟨h1,h2⟩:=h;cases hx:(x:Option t.den) with
  |none=>rw[h1 hx];simp[dv]
  |some l=>obtain⟨b,off,vs,rfl,_⟩:=h2 l hx;simp[dv]
 | .gN t,_,x,h=>by
  simp only[cI]at h;obtain⟨h1,h2⟩:=h;cases hx:(x:Option (Nat×t.den)) with
  |none=>rw[h1 hx];simp[dv]
  |some l=>obtain⟨ca,T,vs,rfl,_⟩:=h2 l hx;simp[dv]
structure sU(E E':Env):Prop where
 has:∀b off v,E.has b off v->E'.has b off v
 fz:∀b ob,E.g b= .free->E.w.heap[b]? =ao ob->E'.g b= .free/\E'.w.heap[b]? =ao ob
theorem sU.refl(E:Env):sU E E:=⟨λ_ _ _ h=>h,λ_ _ h h'=>⟨h,h'⟩⟩
theorem sU.trans{E E' E'':Env}(h:sU E E')(h':sU E' E''):sU E E'':=⟨λb o v x=>h'.has b o v (h.has b o v x),λb ob h1 h2=>let⟨h3,h4⟩:=h.fz b ob h1 h2;h'.fz b ob h3 h4⟩
theorem wW.mono{E E':Env}(h:sU E E'){a:Option Addr}{vs:List Value}(hr:wW E a vs):wW E' a vs:=
 λi v hv=>let⟨b,off,ha,hh⟩:=hr i v hv;⟨b,off,ha,h.has _ _ _ hh⟩
theorem cI.mono{E E':Env}(hm:sU E E'):∀ {t:Ty} {cs:List Value} {x:t.den},cI E t cs x->cI E' t cs x
 | .int _,_,_,h=>by simpa only[cI]using h
 | .bool,_,_,h=>by simpa only[cI]using h
 | .str,_,_,h=>by simpa only[cI]using h
 | .slice t,_,_,h=>by simp only[cI]at h ⊢;obtain⟨a,cap,vs,e,hl,hs,hr,hc⟩:=h;exact⟨a,cap,vs,e,hl,hs,hr.mono hm,hc.mono λc x hx=>cI.mono hm hx⟩
 | .unit,_,_,h=>by simpa only[cI]using h
 | .pair a b,_,_,h=>by simp only[cI]at h ⊢;obtain⟨ca,cb,e,ha,hb⟩:=h;exact⟨ca,cb,e,cI.mono hm ha,cI.mono hm hb⟩
 | .arr n t,_,_,h=>by simp only[cI]at h ⊢;exact⟨h.1,h.2.mono λc x hx=>cI.mono hm hx⟩
 | .fS t,_,_,h=>by simp only[cI]at h ⊢;refine⟨h.1,λl hx=> ?_⟩;obtain⟨a,cap,vs,e,hl,hs,hr,hc⟩:=h.2 l hx;exact⟨a,cap,vs,e,hl,hs,hr.mono hm,hc.mono λc x hx=>cI.mono hm hx⟩
 | .od t,_,_,h=>by simp only[cI]at h ⊢;refine⟨h.1,λl hx=> ?_⟩;obtain⟨b,off,vs,e,hr,hc⟩:=h.2 l hx;exact⟨b,off,vs,e,hr.mono hm,cI.mono hm hc⟩
 | .gN t,_,_,h=>by simp only[cI]at h ⊢;refine⟨h.1,λl hx=> ?_⟩;obtain⟨ca,T,vs,e,h0,hr,hc⟩:=h.2 l hx;exact⟨ca,T,vs,e,hm.fz _ _ h0.1 h0.2,hr.mono hm,cI.mono hm hc⟩
theorem wW.uniq{E:Env}{a:Option Addr}{vs vs':List Value}(hl:vs.length=vs'.length)(h:wW E a vs)(h':wW E a vs'):vs=vs':=by apply py hl;intro i h1 h2;obtain⟨b,off,e,hh⟩:=h i vs[i] (bQ h1);obtain⟨b',off',e',hh'⟩:=h' i vs'[i] (bQ h2);rw[e]at e';simp only[az,Addr.mk.injEq,eG]at e';obtain⟨rfl,rfl⟩:=e';exact aP (hh.1.symm.trans hh'.1)
theorem bq.uniq{α:Type}{R:List Value->α->Prop}{z:Nat}(hs:∀c x,R c x->c.length=z)(hR:∀c x y,R c x->R c y->x=y):∀ {cs:List Value} {l l':List α},l.length=l'.length->bq R cs l->bq R cs l'->l=l'
 |_,[],[],_,_,_=>rfl
 |_,[],_::_,hl,_,_=>by simp at hl
 |_,_::_,[],hl,_,_=>by simp at hl
 |cs,x::xs,y::ys,hl,⟨c,cs1,e,hx,hr⟩,⟨d,cs2,e',hy,hr'⟩=>by rw[e]at e';obtain⟨rfl,rfl⟩:=List.append_inj e' (by rw[hs _ _ hx,hs _ _ hy]);rw[hR _ _ _ hx hy,bq.uniq hs hR (by simpa using hl) hr hr']
theorem cI.uniq{E:Env}:∀ {t:Ty} {cs:List Value} {x y:t.den},t.amS=aT->cI E t cs x->cI E t cs y->x=y
 | .int _,_,_,_,_,h,h'=>by simp only[cI]at h h';rw[h]at h';simpa using h'
 | .bool,_,_,_,_,h,h'=>by simp only[cI]at h h';rw[h]at h';simpa using h'
 | .str,_,_,_,_,h,h'=>by simp only[cI]at h h';rw[h]at h';simpa using h'
 | .slice t,_,x,y,hn,h,h'=>by
  simp only[cI]at h h';obtain⟨a,cap,vs,e,_,_,hr,hc⟩:=h;obtain⟨a',cap',vs',e',_,_,hr',hc'⟩:=h';rw[e]at e';simp only[cz,Value.slice.injEq,eG]at e';obtain⟨rfl,hl,_⟩:=e';have hl:(x:List t.den).length=(y:List t.den).length:=by exact_mod_cast hl
  have h1:=bq.length (λc x hx=>cI.size hx) hc;have h2:=bq.length (λc x hx=>cI.size hx) hc';obtain rfl:=hr.uniq (by rw[h1,h2,hl]) hr';exact bq.uniq (λc x hx=>cI.size hx) (λc x y hx hy=>cI.uniq (by simpa only[Ty.amS]using hn) hx hy) hl hc hc'
 | .unit,_,_,_,_,_,_=>rfl
 | .pair a b,_,x,y,hn,h,h'=>by simp only[Ty.amS,av]at hn;simp only[cI]at h h';obtain⟨ca,cb,e,ha,hb⟩:=h;obtain⟨ca',cb',e',ha',hb'⟩:=h';rw[e]at e';obtain⟨rfl,rfl⟩:=List.append_inj e' (by rw[cI.size ha,cI.size ha']);exact Prod.ext (cI.uniq hn.1 ha ha') (cI.uniq hn.2 hb hb')
 | .arr n t,_,x,y,hn,h,h'=>by simp only[cI]at h h';exact bq.uniq (λc x hx=>cI.size hx) (λc x y hx hy=>cI.uniq (by simpa only[Ty.amS]using hn) hx hy) (h.1.trans h'.1.symm) h.2 h'.2
 | .fS _,_,_,_,hn,_,_=>by simp[Ty.amS]at hn
 | .od t,_,x,y,hn,h,h'=>by
  simp only[cI]at h h';cases hx:(x:Option t.den) with
  |none=>cases hy:(y:Option t.den) with
   |none=>rfl
   |some v=>
    obtain⟨b,off,vs,e,_⟩:=h'.2 v hy;rw[h.1 hx]at e;simp at e
  |some u=>cases hy:(y:Option t.den) with
   |none=>
    obtain⟨b,off,vs,e,_⟩:=h.2 u hx;rw[h'.1 hy]at e;simp at e
   |some v=>
    obtain⟨b,off,vs,e,hr,hc⟩:=h.2 u hx;obtain⟨b',off',vs',e',hr',hc'⟩:=h'.2 v hy;rw[e]at e';simp only[cz,Value.pointer.injEq,az,Addr.mk.injEq,eG]at e';obtain⟨rfl,rfl⟩:=e';obtain rfl:=hr.uniq (by rw[cI.size hc,cI.size hc']) hr';rw[cI.uniq (by simpa only[Ty.amS]using hn) hc hc']
 | .gN t,_,x,y,hn,h,h'=>by
  simp only[cI]at h h';cases hx:(x:Option (Nat×t.den)) with
  |none=>cases hy:(y:Option (Nat×t.den)) with
   |none=>rfl
   |some v=>
    obtain⟨ca,T,vs,e,_⟩:=h'.2 v hy;rw[h.1 hx]at e;simp at e
  |some u=>cases hy:(y:Option (Nat×t.den)) with
   |none=>
    obtain⟨ca,T,vs,e,_⟩:=h.2 u hx;rw[h'.1 hy]at e;simp at e
   |some v=>
    obtain⟨ca,T,vs,e,_,hr,hc⟩:=h.2 u hx;obtain⟨ca',T',vs',e',_,hr',hc'⟩:=h'.2 v hy;rw[e]at e';simp only[cz,Value.pointer.injEq,az,Addr.mk.injEq,eG]at e';rw[<-e']at hr';obtain rfl:=hr.uniq (by rw[cI.size hc,cI.size hc']) hr';exact bD ao (Prod.ext e' (cI.uniq (by simpa only[Ty.amS]using hn) hc hc'))
def Env.cur(E:Env)(id:Id)(ver:Nat):Prop:=∃fr c,E.s id=ao (.obj ver fr c)
def Env.Eg(E:Env)(id:Id)(ver:Nat):Prop:=E.s id≠aJ/\∀v fr c,E.s id=ao (.obj v fr c)->ver<=v
def fR(agg:Bool)(cs:List Value)(v:Value):Prop:=match agg with | true=>v= .agg cs.toArray | false=>cs=[v]
mutual
def V(E:Env):aD->List Value->Prop
 | .undef,_=>False
 | .gone,cs=>∃v,cs=[v]/\v.oneCell'=aT
 | .dH,cs=>cs=[.slice aJ 0 0]
 | .kh,cs=>cs=[.pointer aJ]
 | .vY,cs=>cs=[.nilFunc]
 | .By,cs=>cs=[.map aJ]
 | .sb l,cs=>∃(b cap:Nat) (arr:Array Value) (e:TypeId),cs=[.slice (ao ⟨b,0,aJ⟩) l.length cap]/\l.length<=cap/\E.g b= .free/\E.w.heap[b]? =ao (.cells arr e (arr.size,arr.size+1))/\∀(j:Nat) (v:Value),(l.map (Value.int .u8))[j]? =ao v->arr[j]? =ao v
 | .d t x,cs=>cI E t cs x
 | .pr a b,cs=>∃ca cb,cs=ca++cb/\V E a ca/\V E b cb
 | .ptr id ver _ n,cs=>∃a,cs=[.pointer (ao a)]/\E.Eg id ver/\(E.cur id ver->∃pl,E.β id=ao pl/\a=⟨pl.b,n,aJ⟩)
 | .eI t x,cs=>∃b off vs,cs=[.pointer (ao ⟨b,off,aJ⟩)]/\wW E (ao ⟨b,off,aJ⟩) vs/\cI E t vs x
 | .b8 id ver p c i len,cs=>∃a cap,cs=[.slice a len cap]/\len<=cap/\(0 < len->a.isSome=aT)/\E.Eg id ver/\
   (E.cur id ver->match E.β id with
    |some pl=>(0 < len\/i=0->a=ao ⟨pl.b,c,aJ⟩)/\(p=[]->i=0->cap=pl.cap)
    |none=>a=aJ/\len=0/\cap=0)
 | .fn f c,cs=>∃vs,cs=[.func (.func f) #[] vs.toArray]/\VC E c vs
 | .cons _ _,_=>False
 | .nil,_=>False
 | .vec ..,_=>False
 | .bx ..,_=>False
 | .yl id ver,cs=>∃l,cs=[.func (.yield l) #[] #[]]/\E.Eg id ver/\(E.cur id ver->∃pl,E.β id=ao pl/\l=pl.b)
 | .yZ ..,_=>False
 | .cO id ver,cs=>∃b,cs=[.map (ao b)]/\E.Eg id ver/\(E.cur id ver->∃pl,E.β id=ao pl/\b=pl.b)
 | .mp ..,_ | .qo ..,_=>False
def VC(E:Env):aD->List Value->Prop
 | .nil,vs=>vs=[]
 | .cons a b,vs=>∃v vs' cs,vs=v::vs'/\V E a cs/\fR a.agg cs v/\VC E b vs'
 |_,_=>False
end
structure cU(E E':Env):Prop where
 mem:sU E E'
 Eg:∀id ver,E.Eg id ver->E'.Eg id ver
 cur:∀id ver,E.Eg id ver->E'.cur id ver->E.cur id ver/\E'.β id=E.β id
theorem cU.refl(E:Env):cU E E:=⟨sU.refl E,λ_ _ h=>h,λ_ _ _ h=>⟨h,rfl⟩⟩
theorem cU.trans{E E' E'':Env}(h:cU E E')(h':cU E' E''):cU E E'':=
 ⟨h.mem.trans h'.mem,λid v b=>h'.Eg id v (h.Eg id v b),λid v b c=>
  let⟨c1,e1⟩:=h'.cur id v (h.Eg id v b) c
  let⟨c2,e2⟩:=h.cur id v b c1
  ⟨c2,e1.trans e2⟩⟩
mutual
theorem V.mono{E E':Env}(h:cU E E'):∀ {a:aD} {cs:List Value},V E a cs->V E' a cs
 | .undef,_,hv=>by simp only[V]at hv
 | .gone,_,hv=>by simpa only[V]using hv
 | .dH,_,hv=>by simpa only[V]using hv
 | .kh,_,hv=>by simpa only[V]using hv
 | .vY,_,hv=>by simpa only[V]using hv
 | .yZ ..,_,hv=>by simp only[V]at hv
 | .By,_,hv=>by simpa only[V]using hv
 | .sb l,_,hv=>by simp only[V]at hv ⊢;obtain⟨b,cap,arr,e,h1,h2,h3,h4,h5⟩:=hv;obtain⟨h6,h7⟩:=h.mem.fz b _ h3 h4;exact⟨b,cap,arr,e,h1,h2,h6,h7,h5⟩
 | .d t x,_,hv=>by simp only[V]at hv ⊢;exact hv.mono h.mem
 | .pr a b,_,hv=>by simp only[V]at hv ⊢;obtain⟨ca,cb,e,ha,hb⟩:=hv;exact⟨ca,cb,e,V.mono h ha,V.mono h hb⟩
 | .ptr id ver p n,_,hv=>by simp only[V]at hv ⊢;obtain⟨a,e,hb,hc⟩:=hv;refine⟨a,e,h.Eg _ _ hb,λc=> ?_⟩;obtain⟨c1,e1⟩:=h.cur _ _ hb c;rw[e1];exact hc c1
 | .eI t x,_,hv=>by simp only[V]at hv ⊢;obtain⟨b,off,vs,e,hr,hx⟩:=hv;exact⟨b,off,vs,e,hr.mono h.mem,hx.mono h.mem⟩
 | .b8 id ver p c i len,_,hv=>by simp only[V]at hv ⊢;obtain⟨a,cap,e,hl,hs,hb,hc⟩:=hv;refine⟨a,cap,e,hl,hs,h.Eg _ _ hb,λc=> ?_⟩;obtain⟨c1,e1⟩:=h.cur _ _ hb c;rw[e1];exact hc c1
 | .fn f c,_,hv=>by simp only[V]at hv ⊢;obtain⟨vs,e,hc⟩:=hv;exact⟨vs,e,VC.mono h hc⟩
 | .cons _ _,_,hv=>by simp only[V]at hv
 | .nil,_,hv=>by simp only[V]at hv
 | .vec ..,_,hv=>by simp only[V]at hv
 | .bx ..,_,hv=>by simp only[V]at hv
 | .yl id ver,_,hv=>by simp only[V]at hv ⊢;obtain⟨b,e,hb,hc⟩:=hv;refine⟨b,e,h.Eg _ _ hb,λc=> ?_⟩;obtain⟨c1,e1⟩:=h.cur _ _ hb c;rw[e1];exact hc c1
 | .cO id ver,_,hv=>by simp only[V]at hv ⊢;obtain⟨b,e,hb,hc⟩:=hv;refine⟨b,e,h.Eg _ _ hb,λc=> ?_⟩;obtain⟨c1,e1⟩:=h.cur _ _ hb c;rw[e1];exact hc c1
 | .mp ..,_,hv | .qo ..,_,hv=>by simp only[V]at hv
theorem VC.mono{E E':Env}(h:cU E E'):∀ {a:aD} {vs:List Value},VC E a vs->VC E' a vs
 | .nil,_,hv=>by simpa only[VC]using hv
 | .cons a b,_,hv=>by simp only[VC]at hv ⊢;obtain⟨v,vs',cs,e,ha,ho,hb⟩:=hv;exact⟨v,vs',cs,e,V.mono h ha,ho,VC.mono h hb⟩
 | .undef,_,hv=>by simp only[VC]at hv
 | .gone,_,hv=>by simp only[VC]at hv
 | .dH,_,hv=>by simp only[VC]at hv
 | .kh,_,hv=>by simp only[VC]at hv
 | .vY,_,hv=>by simp only[VC]at hv
 | .yl ..,_,hv | .yZ ..,_,hv=>by simp only[VC]at hv
 | .By,_,hv=>by simp only[VC]at hv
 | .sb _,_,hv=>by simp only[VC]at hv
 | .d t x,_,hv=>by simp only[VC]at hv
 | .pr a b,_,hv=>by simp only[VC]at hv
 | .ptr ..,_,hv=>by simp only[VC]at hv
 | .eI ..,_,hv=>by simp only[VC]at hv
 | .b8 ..,_,hv=>by simp only[VC]at hv
 | .fn ..,_,hv=>by simp only[VC]at hv
 | .vec ..,_,hv=>by simp only[VC]at hv
 | .bx ..,_,hv=>by simp only[VC]at hv
 | .cO ..,_,hv=>by simp only[VC]at hv
 | .mp ..,_,hv | .qo ..,_,hv=>by simp only[VC]at hv
end
theorem V.size{E:Env}:∀ {a:aD} {cs:List Value},V E a cs->cs.length=a.size
 | .undef,_,hv=>by simp only[V]at hv
 | .gone,_,hv=>by simp only[V]at hv;obtain⟨v,rfl,_⟩:=hv;rfl
 | .dH,_,hv=>by simp only[V]at hv;rw[hv];rfl
 | .kh,_,hv=>by simp only[V]at hv;rw[hv];rfl
 | .vY,_,hv=>by simp only[V]at hv;rw[hv];rfl
 | .yl ..,_,hv=>by simp only[V]at hv;obtain⟨_,rfl,_⟩:=hv;rfl
 | .yZ ..,_,hv=>by simp only[V]at hv
 | .By,_,hv=>by simp only[V]at hv;rw[hv];rfl
 | .sb _,_,hv=>by simp only[V]at hv;obtain⟨_,_,_,_,rfl,_⟩:=hv;rfl
 | .d t x,_,hv=>by simp only[V]at hv;exact hv.size
 | .pr a b,_,hv=>by simp only[V]at hv;obtain⟨ca,cb,rfl,ha,hb⟩:=hv;simp[aD.size,V.size ha,V.size hb]
 | .ptr ..,_,hv=>by simp only[V]at hv;obtain⟨a,rfl,_⟩:=hv;rfl
 | .eI ..,_,hv=>by simp only[V]at hv;obtain⟨_,_,_,rfl,_⟩:=hv;rfl
 | .b8 ..,_,hv=>by simp only[V]at hv;obtain⟨_,_,rfl,_⟩:=hv;rfl
 | .fn ..,_,hv=>by simp only[V]at hv;obtain⟨_,rfl,_⟩:=hv;rfl
 | .cons _ _,_,hv=>by simp only[V]at hv
 | .nil,_,hv=>by simp only[V]at hv
 | .vec ..,_,hv=>by simp only[V]at hv
 | .bx ..,_,hv=>by simp only[V]at hv
 | .cO ..,_,hv=>by simp only[V]at hv;obtain⟨_,rfl,_⟩:=hv;rfl
 | .mp ..,_,hv | .qo ..,_,hv=>by simp only[V]at hv
theorem V.one{E:Env}:∀ {a:aD} {cs:List Value},V E a cs->∀c∈cs,c.oneCell'=aT
 | .undef,_,hv=>by simp only[V]at hv
 | .gone,_,hv=>by simp only[V]at hv;obtain⟨v,rfl,h⟩:=hv;simp[h]
 | .dH,_,hv=>by simp only[V]at hv;rw[hv];simp[dv]
 | .kh,_,hv=>by simp only[V]at hv;rw[hv];simp[dv]
 | .vY,_,hv=>by simp only[V]at hv;rw[hv];simp[dv]
 | .yl ..,_,hv=>by simp only[V]at hv;obtain⟨_,rfl,_⟩:=hv;simp[dv]
 | .yZ ..,_,hv=>by simp only[V]at hv
 | .By,_,hv=>by simp only[V]at hv;rw[hv];simp[dv]
 | .sb _,_,hv=>by simp only[V]at hv;obtain⟨_,_,_,_,rfl,_⟩:=hv;simp[dv]
 | .d t x,_,hv=>by simp only[V]at hv;exact hv.one
 | .pr a b,_,hv=>by
  simp only[V]at hv;obtain⟨ca,cb,rfl,ha,hb⟩:=hv;intro c hc;rcases bC.1 hc with hc | hc
  ·exact V.one ha c hc
  ·exact V.one hb c hc
 | .ptr ..,_,hv=>by simp only[V]at hv;obtain⟨a,rfl,_⟩:=hv;simp[dv]
 | .eI ..,_,hv=>by simp only[V]at hv;obtain⟨_,_,_,rfl,_⟩:=hv;simp[dv]
 | .b8 ..,_,hv=>by simp only[V]at hv;obtain⟨_,_,rfl,_⟩:=hv;simp[dv]
 | .fn ..,_,hv=>by simp only[V]at hv;obtain⟨_,rfl,_⟩:=hv;simp[dv]
 | .cons _ _,_,hv=>by simp only[V]at hv
 | .nil,_,hv=>by simp only[V]at hv
 | .vec ..,_,hv=>by simp only[V]at hv
 | .bx ..,_,hv=>by simp only[V]at hv
 | .cO ..,_,hv=>by simp only[V]at hv;obtain⟨_,rfl,_⟩:=hv;simp[dv]
 | .mp ..,_,hv | .qo ..,_,hv=>by simp only[V]at hv
theorem aD.ahm:∀ {v:aD},v.agg=aR->v.size=1
 | .d (.int _) _,_ | .d .bool _,_ | .d .str _,_ | .d (.slice _) _,_ | .d (.fS _) _,_ | .d (.od _) _,_ | .d (.gN _) _,_=>rfl
 | .d .unit _,h | .d (.pair _ _) _,h | .d (.arr _ _) _,h=>by simp[aD.agg,Ty.agg]at h
 | .pr _ _,h=>by simp[aD.agg]at h
 | .undef,_ | .gone,_ | .dH,_ | .kh,_ | .vY,_ | .By,_ | .ptr ..,_ | .eI ..,_ | .b8 ..,_ | .fn ..,_ | .cons ..,_ | .nil,_ | .vec ..,_ | .sb _,_ | .bx ..,_ | .cO ..,_ | .mp ..,_ | .qo ..,_ | .yl ..,_ | .yZ ..,_=>rfl
def VS(E:Env):aD->Value->Prop
 | .undef,_=>True
 | .cons a b,v=>∃vs,v= .tuple vs.toArray/\VC E (.cons a b) vs
 | .nil,v=>v= .tuple #[]
 |a,v=>∃cs,V E a cs/\fR a.agg cs v
theorem VS.mono{E E':Env}(h:cU E E'):∀ {a:aD} {v:Value},VS E a v->VS E' a v:=by
 intro a v hv
 cases a <;> first
  |trivial
  |exact hv
  | (obtain⟨cs,h1,h2⟩:=hv;exact⟨cs,V.mono h h1,h2⟩)
  | (obtain⟨vs,e,hc⟩:=hv;exact⟨vs,e,VC.mono h hc⟩)
theorem VS.undef{E:Env}{v:Value}:VS E .undef v:=trivial
theorem VS.of{E:Env}{a:aD}{cs:List Value}{v:Value}(h:V E a cs)(ho:fR a.agg cs v):VS E a v:=by
 cases a <;> first
  | (simp only[V]at h;done)
  |exact⟨cs,h,ho⟩
theorem VS.eQ{E:Env}{a:aD}{v:Value}(h:VS E a v)(hc:a.eQ=aT):∃cs,V E a cs/\fR a.agg cs v:=by
 cases a <;> first
  | (simp[aD.eQ]at hc;done)
  |exact h
theorem VS.single{E:Env}{a:aD}{v:Value}(h:VS E a v)(hc:a.eQ=aT)(ha:a.agg=aR):V E a [v]:=by obtain⟨cs,hv,ho⟩:=h.eQ hc;rw[ha]at ho;have:cs=[v]:=ho;rw[<-this];exact hv
theorem fR.cells{agg:Bool}{cs:List Value}{v:Value}(h:fR agg cs v)(h1:∀c∈cs,c.oneCell'=aT):v.cells=cs.toArray:=by
 cases agg with
 |true=>have:v= .agg cs.toArray:=h;rw[this];rfl
 |false=>
  have e:cs=[v]:=h;have:=h1 v (by simp[e]);rw[e];cases v <;> first | rfl | (simp[dv]at this;done)
end Go.Ab
namespace Go.Ab
section
variable {α β:Type}
theorem ay{a b:α}:(Out.ok a).eval=ao b↔a=b:=by simp[Out.eval]
theorem aw{b:α}:(Out.fail:Out α).eval=ao b↔False:=by simp[Out.eval]
theorem bS{c:Bool}{r:Out α}{b:α}:(Out.ue c r).eval=ao b↔c=aT/\r.eval=ao b:=by cases c <;> simp[Out.eval]
theorem aG{c:Bool}{r:Out α}{b:α}:(Out.guard c r).eval=ao b↔c=aT/\r.eval=ao b:=by cases c <;> simp[Out.guard,Out.eval]
theorem mf{x:Option β}{f:β->Out α}{b:α}:(Out.get x f).eval=ao b↔∃y,x=ao y/\(f y).eval=ao b:=by cases x <;> simp[Out.eval]
theorem jd{x:Option α}{b:α}:(Out.opt x).eval=ao b↔x=ao b:=by cases x <;> simp[Out.opt,Out.eval]
theorem abc(o:Out α)(f:α->Out β):(o.bind f).eval=o.eval.bind λa=>(f a).eval:=by
 induction o with
 |ok a=>rfl
 |fail=>rfl
 |ue c r ih=>cases c <;> simp[Out.bind,Out.eval,ih]
 |get x g ih=>cases x <;> simp[Out.bind,Out.eval,ih]
 |br c x y ih1 ih2=>cases c <;> simp[Out.bind,Out.eval,ih1,ih2]
theorem ax{o:Out α}{f:α->Out β}{b:β}:(o.bind f).eval=ao b↔∃a,o.eval=ao a/\(f a).eval=ao b:=by rw[abc];simp[Option.bind_eq_some_iff]
theorem run_eq{R:Type}(o:Out α)(k:α->Option R):o.run k=o.eval.bind k:=by
 induction o with
 |ok a=>rfl
 |fail=>rfl
 |ue c r ih=>cases c <;> simp[Out.run,Out.eval,aS,ih]
 |get x g ih=>cases x <;> simp[Out.run,Out.eval,aq,ih]
 |br c x y ih1 ih2=>cases c <;> simp[Out.run,Out.eval,aS,ih1,ih2]
theorem gQ{R:Type}{o:Out α}{k:α->Option R}{r:R}:o.run k=ao r↔∃a,o.eval=ao a/\k a=ao r:=by rw[run_eq];simp[Option.bind_eq_some_iff]
end
theorem jb{t t':Ty}{x:t.den}{y:t'.den}(h:s9 t t' x=ao y):∃e:t=t',e▸x=y:=by
 unfold s9 at h;split at h
 ·rename_i e;exact⟨e,by simpa using h⟩
 ·cases h
theorem bq.map{α β:Type}{R:List Value->α->Prop}{R':List Value->β->Prop}{f:α->β}(h:∀c x,R c x->R' c (f x)):∀ {cs:List Value} {l:List α},bq R cs l->bq R' cs (l.map f)
 |_,[],hc=>hc
 |_,x::xs,⟨c,cs',e,hx,hr⟩=>⟨c,cs',e,h c x hx,bq.map h hr⟩
theorem cI.aFm{E:Env}:∀(a b:Ty) (f:a.den->b.den),Xk a b=ao f->∀(cs:List Value) (x:a.den),cI E a cs x->cI E b cs (f x):=by
 intro a b
 induction a,b using Xk.induct with
 |case1 t=>
  intro f hf cs x hx;unfold Xk at hf;rw[xJ rfl]at hf;obtain rfl:=aP hf;simp only[cI]at hx;obtain⟨h1,h2⟩:=hx;show cI E (.slice t) cs ((x:Option (List t.den)).getD []);simp only[cI];cases hx:(x:Option (List t.den)) with
  |none=>exact⟨aJ,0,[],h1 hx,aF _,λh=>absurd h (gv 0),λi v hh=>by simp at hh,rfl⟩
  |some l=>exact h2 l hx
 |case2 t t' gj=>
  intro f hf;unfold Xk at hf;rw[AA gj]at hf;cases hf
 |case3 t=>
  intro f hf cs x hx;unfold Xk at hf;rw[xJ rfl]at hf;obtain rfl:=aP hf;simp only[cI]at hx ⊢;refine⟨λh=>(by cases h),λl hl=> ?_⟩;obtain rfl:x=l:=aP hl;exact hx
 |case4 t t' gj=>
  intro f hf;unfold Xk at hf;rw[AA gj]at hf;cases hf
 |case5 a b c d f g h1 h2 ih1 ih2=>
  intro k hk cs x hx;unfold Xk at hk;rw[h2,h1]at hk;obtain rfl:=aP hk;simp only[cI]at hx ⊢;obtain⟨ca,cb,e,ha,hb⟩:=hx;exact⟨ca,cb,e,ih1 f h2 ca x.1 ha,ih2 g h1 cb x.2 hb⟩
 |case6 a b c d hn ih1 ih2=>
  intro p hp;unfold Xk at hp;split at hp
  ·rename_i f k h1 h2;exact(hn _ _ h1 h2).elim
  ·cases hp
 |case7 a b f h1 ih=>
  intro k hk cs x hx;unfold Xk at hk;rw[h1]at hk;obtain rfl:=aP hk;simp only[cI]at hx ⊢;obtain⟨ad,cap,vs,e,hl,hs,hr,hc⟩:=hx;rw[cH];exact⟨ad,cap,vs,e,hl,hs,hr,hc.map λc x hx=>ih f h1 c x hx⟩
 |case8 a b h1 ih=>
  intro p hp;unfold Xk at hp;rw[h1]at hp;cases hp
 |case9 a h1 h2 h3 h4=>
  intro f hf cs x hx;rw[Xk.eq_5 _ _ h1 h2 h3 h4,xJ rfl]at hf;obtain rfl:=aP hf;exact hx
 |case10 a b h1 h2 h3 h4 gj=>
  intro f hf;rw[Xk.eq_5 _ _ h1 h2 h3 h4,AA gj]at hf;cases hf
theorem azI{t t':Ty}{f:t.den->t'.den}(hp:Xk t t'=ao f):t.agg=t'.agg:=by
 unfold Xk at hp;split at hp
 ·rfl
 ·rfl
 ·rfl
 ·rfl
 ·split at hp
  ·rename_i e;rw[e]
  ·cases hp
theorem YI{t t':Ty}{x:t.den}{y:t'.den}(h:E9 t t' x=ao y):t.agg=t'.agg:=by
 unfold E9 at h;split at h
 ·rename_i z hz;obtain⟨e,_⟩:=jb hz;rw[e]
 ·split at h
  ·rename_i f hf;exact azI hf
  ·cases h
theorem C6{E:Env}{t t':Ty}{x:t.den}{y:t'.den}(h:E9 t t' x=ao y){cs:List Value}(hx:cI E t cs x):cI E t' cs y:=by
 unfold E9 at h;split at h
 ·rename_i z hz;obtain⟨e,hz⟩:=jb hz;subst e;obtain rfl:=aP h;simp only at hz;rw[<-hz];exact hx
 ·split at h
  ·rename_i f hf;obtain rfl:=aP h;exact cI.aFm _ _ f hf cs x hx
  ·cases h
theorem aoQ{E:Env}{t t':Ty}{x:List t.den}{y:List t'.den}(h:E9 (.slice t) (.slice t') x=ao y):y.length=x.length/\∀vs,bq (cI E t) vs x->bq (cI E t') vs y:=by
 unfold E9 at h;split at h
 ·rename_i z hz;obtain⟨e,hz⟩:=jb hz;have e':t=t':=by simpa using e
  subst e';obtain rfl:=aP h;simp only at hz;subst hz;exact⟨rfl,λ_ h=>h⟩
 ·split at h
  ·rename_i p hp;obtain rfl:=aP h;unfold Xk at hp;cases hd:Xk t t' with
   |none=>rw[hd]at hp;cases hp
   |some q=>
    rw[hd]at hp;obtain rfl:=aP hp;exact⟨cH _,λvs hc=>hc.map λc x hx=>cI.aFm _ _ q hd c x hx⟩
  ·cases h
def VO(E:Env):aD->List Value->Prop
 | .vec _ t l,cs=>bq (cI E t) cs l
 |a,cs=>V E a cs
theorem VO.of{E:Env}{a:aD}{cs:List Value}(h:V E a cs):VO E a cs:=by cases a <;> first | exact h | (simp only[V]at h)
def aD.il:aD->Bool | .vec .. =>aT | .mp .. =>aT | .qo .. =>aT | .yZ .. =>aT | _=>aR
theorem VO.to{E:Env}{a:aD}{cs:List Value}(h:VO E a cs)(hn:a.il=aR):V E a cs:=by cases a <;> first | exact h | (simp[aD.il]at hn)
theorem VO.mono{E E':Env}(h:cU E E'){a:aD}{cs:List Value}(hv:VO E a cs):VO E' a cs:=by cases a <;> first | exact V.mono h hv | exact bq.mono (λ_ _ hx=>hx.mono h.mem) hv
theorem UW{t:Ty}{l:List t.den}{i:Nat}(h:i < l.length):nth t l i=l[i]:=by unfold nth;simp[h]
theorem U6{α:Type}(cs:List α)(n m k j:Nat)(h:k+j<=m):(((cs.drop n).take m).drop k).take j=(cs.drop (n+k)).take j:=by rw[sT,l5,gq];congr 1;omega
theorem M3{E:Env}{t:Ty}{cs:List Value}{l:List t.den}(h:bq (cI E t) cs l){i:Nat}(hi:i < l.length):
  cI E t ((cs.drop (i*t.size)).take t.size) l[i]/\i*t.size+t.size<=cs.length:=by
 have hz:∀c x,cI E t c x->c.length=t.size:=λc x hx=>hx.size
 refine⟨h.get hz i hi,?_⟩;rw[h.length hz,<-Nat.succ_mul];exact c8 _ hi
theorem sq{E:Env}:∀(p:List Hw) (c:aD) (cs:List Value) (n:Nat) (v:aD),VO E c cs->(loc c p).eval=ao (n,v)->
  (n=0/\v=c)\/(V E v ((cs.drop n).take v.size)/\n+v.size<=cs.length)
 |[],c,cs,n,v,hc,h=>by left;simp only[loc,ay,cK]at h;exact⟨h.1.symm,h.2.symm⟩
 |st::p,c,cs,n,v,hc,h=>by
  by_cases nQ:st= .arr
  ·subst nQ;have h':(loc c p).eval=ao (n,v):=by cases c <;> simpa only[loc]using h
   exact sq p c cs n v hc h'
  right;have whole:∀(c':aD) (cs':List Value) (n':Nat) (v':aD),V E c' cs'->(loc c' p).eval=ao (n',v')->V E v' ((cs'.drop n').take v'.size)/\n'+v'.size<=cs'.length:=by
   intro c' cs' n' v' hc' hl;rcases sq p c' cs' n' v' (VO.of hc') hl with⟨rfl,rfl⟩ | hh
   ·have:=hc'.size;rw[aQ,bJ au];exact⟨hc',au⟩
   ·exact hh
  have second:∀(a b:aD) (ca cb:List Value),cs=ca++cb->ca.length=a.size->V E b cb->((loc b p).bind λ(n,v)=>Out.ok (a.size+n,v)).eval=ao (n,v)->
    V E v ((cs.drop n).take v.size)/\n+v.size<=cs.length:=by
   intro a b ca cb e hl hb hh;obtain⟨⟨n',v'⟩,h1,h2⟩:=ax.1 hh;simp only[ay,cK]at h2;obtain⟨rfl,rfl⟩:=h2;obtain⟨h3,h4⟩:=whole b cb n' v' hb h1;subst e;rw[<-hl,jY,fZ au,aY,Nat.add_sub_cancel_left];exact⟨h3,by simp only[ak];omega⟩
  have elem:∀(t:Ty) (l:List t.den) (i:Nat),bq (cI E t) cs l->(Out.ue (decide (i < l.length)) ((loc (.d t (nth t l i)) p).bind λ(n,v)=>Out.ok (i*t.size+n,v))).eval=ao (n,v)->
    V E v ((cs.drop n).take v.size)/\n+v.size<=cs.length:=by
   intro t l i uZ hh;obtain⟨hi,hh⟩:=bS.1 hh;have hi:i < l.length:=by simpa using hi
   obtain⟨⟨n',v'⟩,h1,h2⟩:=ax.1 hh;simp only[ay,cK]at h2;obtain⟨rfl,rfl⟩:=h2;obtain⟨hp,hle⟩:=M3 uZ hi;rw[UW hi]at h1;have hv:V E (.d t l[i]) ((cs.drop (i*t.size)).take t.size):=by simpa only[V]using hp
   obtain⟨h3,h4⟩:=whole _ _ n' v' hv h1;have hlen:((cs.drop (i*t.size)).take t.size).length=t.size:=hp.size;rw[U6 _ _ _ _ _ au]at h3;exact⟨h3,au⟩
  cases c with
  |pr a b=>
   simp only[VO,V]at hc;obtain⟨ca,cb,e,ha,hb⟩:=hc;cases st with
   |arr=>exact absurd rfl nQ
   |fst=>
    simp only[loc]at h;obtain⟨h3,h4⟩:=whole a ca n v ha h;subst e;refine⟨?_,by simp only[ak];omega⟩;rw[jY,pB,dx,ky (by omega:v.size<=ca.length - n),fg,bP];exact h3
   |snd=>simp only[loc]at h;exact second a b ca cb e ha.size hb h
   |idx i=>simp only[loc,aw]at h
  |d t x=>
   simp only[VO,V]at hc;cases t with
   |pair ta tb=>
    simp only[cI]at hc;obtain⟨ca,cb,e,ha,hb⟩:=hc;cases st with
    |arr=>exact absurd rfl nQ
    |fst=>
     simp only[loc]at h;obtain⟨h3,h4⟩:=whole (.d ta x.1) ca n v (by simpa only[V]using ha) h;subst e;refine⟨?_,by simp only[ak];omega⟩;rw[jY,pB,dx,ky (by omega:v.size<=ca.length - n),fg,bP];exact h3
    |snd=>simp only[loc]at h;exact second (.d ta x.1) (.d tb x.2) ca cb e ha.size (by simpa only[V]using hb) h
    |idx i=>simp only[loc,aw]at h
   |arr m t=>
    simp only[cI]at hc;cases st with
    |arr=>exact absurd rfl nQ
    |idx i=>simp only[loc]at h;exact elem t x i hc.2 h
    |fst=>simp only[loc,aw]at h
    |snd=>simp only[loc,aw]at h
   |_=>cases st <;> first | exact absurd rfl nQ | (simp only[loc,aw]at h)
  |vec e t l=>
   simp only[VO]at hc;cases st with
   |arr=>exact absurd rfl nQ
   |idx i=>simp only[loc]at h;exact elem t l i hc h
   |fst=>simp only[loc,aw]at h
   |snd=>simp only[loc,aw]at h
  |_=>cases st <;> first | exact absurd rfl nQ | (simp only[loc,aw]at h)
theorem aic{E:Env}{a b:aD}{ca cb:List Value}(ha:V E a ca)(hb:V E b cb):V E (Me a b) (ca++cb):=by
 have gen:V E (.pr a b) (ca++cb):=by simp only[V];exact⟨ca,cb,rfl,ha,hb⟩
 unfold Me;split
 ·simp only[V]at ha hb ⊢;simp only[cI];exact⟨ca,cb,rfl,ha,hb⟩
 ·exact gen
theorem Qq(a b:aD):(Me a b).il=aR:=by unfold Me;split <;> rfl
def dD(cs:List Value)(n:Nat)(vs:List Value):List Value:=cs.take n++vs++cs.drop (n+vs.length)
theorem alb{cs vs:List Value}(h:cs.length=vs.length):dD cs 0 vs=vs:=by simp[dD,fZ (by omega:cs.length<=vs.length)]
theorem A4{ca cb vs:List Value}{n:Nat}(h:n+vs.length<=ca.length):dD (ca++cb) n vs=dD ca n vs++cb:=by unfold dD;rw[pB,jY,ky (by omega:n<=ca.length),fg,bP,ky h,aQ];simp only[aO]
theorem Nj{ca cb vs:List Value}{n:Nat}:dD (ca++cb) (ca.length+n) vs=ca++dD cb n vs:=by unfold dD;rw[pB,bJ au,Nat.add_sub_cancel_left,jY,fZ au,aY];simp only[aO];congr 4;omega
theorem alc{cs vs:List Value}{i z n:Nat}(hz:i+z<=cs.length)(h:n+vs.length<=z):
  dD cs (i+n) vs=cs.take i++dD ((cs.drop i).take z) n vs++cs.drop (i+z):=by
 have e:cs=cs.take i++((cs.drop i).take z++cs.drop (i+z)):=by rw[<-gq,dR,dR]
 have hl:(cs.take i).length=i:=by simp;omega
 have hm:((cs.drop i).take z).length=z:=by simp;omega
 conv=>lhs;rw[e,show i+n=(cs.take i).length+n by rw[hl]]
 rw[Nj,A4 au];simp only[aO]
theorem jS{cs vs:List Value}{n:Nat}(h:n+vs.length<=cs.length):(dD cs n vs).length=cs.length:=by simp[dD];omega
def l6:aD->aD->Prop
 | .vec e t l,.vec e' t' l'=>e'=e/\t'=t/\l'.length=l.length
 | .vec ..,_=>False
 |_,.vec .. =>False
 | .mp ..,_ | .qo ..,_ | .yZ ..,_=>False
 |_,.mp .. | _,.qo .. | _,.yZ .. =>False
 |_,_=>True
theorem l6.tA{a b:aD}(h:l6 a b)(ha:a.il=aR):b.il=aR:=by
 cases b <;> first
  |rfl
  | (cases a <;> first | (simp[aD.il]at ha;done) | exact h.elim)
theorem l6.of{a b:aD}(ha:a.il=aR)(hb:b.il=aR):l6 a b:=by
 cases a <;> first
  | (simp[aD.il]at ha;done)
  | (cases b <;> first | trivial | (simp[aD.il]at hb;done))
theorem V.tA{E:Env}{a:aD}{cs:List Value}(h:V E a cs):a.il=aR:=by cases a <;> first | rfl | (simp only[V]at h)
theorem qg{E:Env}:∀(p:List Hw) (c:aD) (cs:List Value) (n:Nat) (o v c':aD) (vs:List Value),VO E c cs->(loc c p).eval=ao (n,o)->V E v vs->
  (w6 c p v).eval=ao c'->n+vs.length<=cs.length/\VO E c' (dD cs n vs)/\
   l6 c c'
 |[],c,cs,n,o,v,c',vs,hc,hl,hv,h=>by
  simp only[loc,ay,cK]at hl;obtain⟨rfl,rfl⟩:=hl
  have main:∀(aGK:c.il=aR),(Out.guard (v.eQ && (c.size==v.size)) (.ok v)).eval=ao c'->0+vs.length<=cs.length/\VO E c' (dD cs 0 vs)/\
   l6 c c':=by
   intro aGK hg;obtain⟨h1,h2⟩:=aG.1 hg;obtain rfl:=ay.1 h2;simp only[av,dB]at h1;have e1:=(hc.to aGK).size;have e2:=hv.size;refine⟨au,?_,?_⟩
   ·rw[alb au];exact VO.of hv
   ·exact l6.of aGK hv.tA
  cases c with
  |vec e t l=>simp only[w6,aw]at h
  |mp k v l=>simp only[w6,aw]at h
  |qo q ver k v rest cur=>simp only[w6,aw]at h
  |yZ k f p=>simp only[w6,aw]at h
  |_=>exact main rfl (by simpa only[w6]using h)
 |st::p,c,cs,n,o,v,c',vs,hc,hl,hv,h=>by
  by_cases nQ:st= .arr
  ·subst nQ;have hl':(loc c p).eval=ao (n,o):=by cases c <;> simpa only[loc]using hl
   have h':(w6 c p v).eval=ao c':=by cases c <;> simpa only[w6]using h
   exact qg p c cs n o v c' vs hc hl' hv h'
  have left:∀(a b:aD) (ca cb:List Value),cs=ca++cb->V E a ca->V E b cb->(loc a p).eval=ao (n,o)->((w6 a p v).bind λa'=>Out.ok (Me a' b)).eval=ao c'->
    n+vs.length<=cs.length/\VO E c' (dD cs n vs)/\c'.il=aR:=by
   intro a b ca cb e ha hb hl hh;obtain⟨a',h1,h2⟩:=ax.1 hh;obtain rfl:=ay.1 h2;obtain⟨h3,h4,h5⟩:=qg p a ca n o v a' vs (VO.of ha) hl hv h1;subst e;refine⟨by simp only[ak];omega,?_,Qq _ _⟩;rw[A4 h3];have aIC:a'.il=aR:=h5.tA ha.tA;exact VO.of (aic (h4.to aIC) hb)
  have right:∀(a b:aD) (ca cb:List Value),cs=ca++cb->ca.length=a.size->V E a ca->V E b cb->((loc b p).bind λ(n,v)=>Out.ok (a.size+n,v)).eval=ao (n,o)->
    ((w6 b p v).bind λb'=>Out.ok (Me a b')).eval=ao c'->n+vs.length<=cs.length/\VO E c' (dD cs n vs)/\c'.il=aR:=by
   intro a b ca cb e auW ha hb hl hh;obtain⟨⟨n',v'⟩,h1,h2⟩:=ax.1 hl;simp only[ay,cK]at h2;obtain⟨rfl,rfl⟩:=h2;obtain⟨b',h3,h4⟩:=ax.1 hh;obtain rfl:=ay.1 h4;obtain⟨h5,h6,h7⟩:=qg p b cb n' v' v b' vs (VO.of hb) h1 hv h3;subst e;refine⟨by simp only[ak];omega,?_,Qq _ _⟩;rw[<-auW,Nj];have aIC:b'.il=aR:=h7.tA hb.tA;exact VO.of (aic ha (h6.to aIC))
  have elem:∀(t:Ty) (l:List t.den) (i:Nat) (mk:List t.den->aD),bq (cI E t) cs l->(Out.ue (decide (i < l.length)) ((loc (.d t (nth t l i)) p).bind λ(n,v)=>Out.ok (i*t.size+n,v))).eval=ao (n,o)->
    (Out.ue (decide (i < l.length)) ((w6 (.d t (nth t l i)) p v).bind fun
     | .d t' y=>(Out.opt (s9 t' t y)).bind λy=> .ok (mk (l.set i y))
     |_=> .fail)).eval=ao c'->
    n+vs.length<=cs.length/\∃l',c'=mk l'/\l'.length=l.length/\bq (cI E t) (dD cs n vs) l':=by
   intro t l i mk uZ hl hh;obtain⟨hi,hl⟩:=bS.1 hl;have hi:i < l.length:=by simpa using hi
   obtain⟨⟨n',v'⟩,h1,h2⟩:=ax.1 hl;simp only[ay,cK]at h2;obtain⟨rfl,rfl⟩:=h2;obtain⟨_,hh⟩:=bS.1 hh;obtain⟨w,h3,h4⟩:=ax.1 hh;obtain⟨hp,hle⟩:=M3 uZ hi;rw[UW hi]at h1 h3;have aEe:V E (.d t l[i]) ((cs.drop (i*t.size)).take t.size):=by simpa only[V]using hp
   have hlen:((cs.drop (i*t.size)).take t.size).length=t.size:=hp.size;obtain⟨h5,h6,h7⟩:=qg p _ _ n' v' v w vs (VO.of aEe) h1 hv h3;cases w with
   |d t' y=>
    simp only at h4;obtain⟨y',h8,h9⟩:=ax.1 h4;obtain⟨rfl,h8⟩:=jb (jd.1 h8);simp only at h8;subst h8;obtain rfl:=ay.1 h9;refine⟨au,_,rfl,by simp,?_⟩;have hy:cI E t' (dD ((cs.drop (i*t'.size)).take t'.size) n' vs) y:=by simpa only[VO,V]using h6
    have:=bq.set (λc x hx=>cI.size hx) uZ i hi hy;rw[alc (by omega:i*t'.size+t'.size<=cs.length) au];rwa[hy.size]at this
   |_=>simp only[aw]at h4
  cases c with
  |pr a b=>
   simp only[VO,V]at hc;obtain⟨ca,cb,e,ha,hb⟩:=hc;cases st with
   |arr=>exact absurd rfl nQ
   |fst=>
    simp only[loc]at hl;simp only[w6]at h;obtain⟨r1,r2,r3⟩:=left a b ca cb e ha hb hl h;exact⟨r1,r2,l6.of rfl r3⟩
   |snd=>
    simp only[loc]at hl;simp only[w6]at h;obtain⟨r1,r2,r3⟩:=right a b ca cb e ha.size ha hb hl h;exact⟨r1,r2,l6.of rfl r3⟩
   |idx i=>simp only[loc,aw]at hl
  |d t x=>
   simp only[VO,V]at hc;cases t with
   |pair ta tb=>
    simp only[cI]at hc;obtain⟨ca,cb,e,ha,hb⟩:=hc;have ha':V E (.d ta x.1) ca:=by simpa only[V]using ha
    have hb':V E (.d tb x.2) cb:=by simpa only[V]using hb
    cases st with
    |arr=>exact absurd rfl nQ
    |fst=>
     simp only[loc]at hl;simp only[w6]at h;obtain⟨r1,r2,r3⟩:=left _ _ ca cb e ha' hb' hl h;exact⟨r1,r2,l6.of rfl r3⟩
    |snd=>
     simp only[loc]at hl;simp only[w6]at h;obtain⟨r1,r2,r3⟩:=right (.d ta x.1) (.d tb x.2) ca cb e ha.size ha' hb' hl h;exact⟨r1,r2,l6.of rfl r3⟩
    |idx i=>simp only[loc,aw]at hl
   |arr m t=>
    simp only[cI]at hc;cases st with
    |arr=>exact absurd rfl nQ
    |idx i=>
     simp only[loc]at hl;simp only[w6]at h;obtain⟨r1,l',e,r2,r3⟩:=elem t x i (λl=> .d (.arr m t) l) hc.2 hl h;subst e;refine⟨r1,?_,trivial⟩;simp only[VO,V,cI];exact⟨by rw[r2];exact hc.1,r3⟩
    |fst=>simp only[loc,aw]at hl
    |snd=>simp only[loc,aw]at hl
   |_=>cases st <;> first | exact absurd rfl nQ | (simp only[loc,aw]at hl)
  |vec e t l=>
   simp only[VO]at hc;cases st with
   |arr=>exact absurd rfl nQ
   |idx i=>
    simp only[loc]at hl;simp only[w6]at h;obtain⟨r1,l',e',r2,r3⟩:=elem t l i (λl=> .vec e t l) hc hl h;subst e';exact⟨r1,by simpa only[VO]using r3,rfl,rfl,r2⟩
   |fst=>simp only[loc,aw]at hl
   |snd=>simp only[loc,aw]at hl
  |_=>cases st <;> first | exact absurd rfl nQ | (simp only[loc,aw]at hl)
end Go.Ab
namespace Go.Ab
def aC9(E:Env)(id:Id)(fr:Bool)(e:TypeId)(t:Ty)(l:List t.den):Prop:=
 0 < t.size/\match E.β id with
  |none=>l=[]
  |some pl=>∃cur k,E.w.heap[pl.b]? =ao (.cells cur e (0,0))/\cur.size=pl.cap*t.size/\l.length<=pl.cap/\pl.cap<=maxLen/\E.g pl.b= .own (.id id) k/\
    k<=l.length*t.size/\(fr=aR->k=0)/\bq (cI E t) (cur.toList.take (l.length*t.size)) l
def aD.E3:aD->Pl->Nat->TypeId->Prop
 | .bx e' 0 _,_,_,e=>e=e'
 | .bx e' (z+1) c,pl,n,e=>e=e'/\n=pl.cap*(z+1)/\pl.cap<=maxLen/\c.size<=n
 |_,_,_,_=>True
def aD.vN:aD->Nat->Nat
 | .bx _ (_+1) c,_=>c.size
 |_,n=>n
def aD.Xo:aD->Bool | .bx .. =>aT | _=>aR
theorem V.zH{E:Env}{a:aD}{cs:List Value}(h:V E a cs):a.Xo=aR:=by cases a <;> first | rfl | (simp only[V]at h)
theorem Pd{c:aD}(h:c.Xo=aR):c.strip=c:=by cases c <;> first | rfl | (simp[aD.Xo]at h)
theorem NY{c:aD}(h:c.Xo=aR)(pl:Pl)(n:Nat)(e:TypeId):c.E3 pl n e:=by cases c <;> first | trivial | (simp[aD.Xo]at h)
theorem SV{c:aD}(h:c.Xo=aR)(n:Nat):c.vN n=n:=by cases c <;> first | rfl | (simp[aD.Xo]at h)
theorem Ke(c:aD){c':aD}(h:c'.Xo=aR):(c.wrap c').strip=c':=by cases c <;> first | rfl | exact Pd h
theorem I3{c c':aD}{pl:Pl}{n:Nat}{e:TypeId}(hc:c.E3 pl n e)(h:c'.Xo=aR)(hs:c'.size=c.strip.size):(c.wrap c').E3 pl n e:=by
 cases c with
 |bx e' z c=>cases z with
  |zero=>exact hc
  |succ z=>exact⟨hc.1,hc.2.1,hc.2.2.1,by rw[hs];exact hc.2.2.2⟩
 |_=>exact NY h pl n e
theorem NX{c c':aD}{n:Nat}(h:c'.Xo=aR)(hs:c'.size=c.strip.size):(c.wrap c').vN n=c.vN n:=by
 cases c with
 |bx e' z c=>cases z with
  |zero=>rfl
  |succ z=>exact hs
 |_=>exact SV h n
theorem RX{c:aD}{pl:Pl}{n:Nat}{e:TypeId}(h:c.E3 pl n e):c.vN n<=n:=by
 cases c with
 |bx e' z c=>cases z with
  |zero=>exact aF _
  |succ z=>exact h.2.2.2
 |_=>exact aF _
def aiG(id:Id)(fr:Bool):lY:=match fr with | true=> .free | false=> .own (.id id) 0
def NM(E:Env)(id:Id)(fr:Bool)(c:aD):Prop:=∃pl cur e,E.β id=ao pl/\E.w.heap[pl.b]? =ao (.cells cur e (0,0))/\E.g pl.b=aiG id fr/\c.E3 pl cur.size e/\V E c.strip (cur.toList.take (c.vN cur.size))
def Alike{α β:Type}(R:α->β->Prop):List α->List β->Prop
 |[],[]=>True
 |x::xs,y::ys=>R x y/\Alike R xs ys
 |_,_=>False
theorem Alike.mono{α β:Type}{R R':α->β->Prop}(h:∀x y,R x y->R' x y):∀ {xs:List α} {ys:List β},Alike R xs ys->Alike R' xs ys
 |[],[],_=>trivial
 |_::_,_::_,⟨h1,h2⟩=>⟨h _ _ h1,Alike.mono h h2⟩
 |[],_::_,h=>h.elim
 |_::_,[],h=>h.elim
def B7(E:Env)(t:Ty)(v:Value)(x:t.den):Prop:=∃cs,cI E t cs x/\fR t.agg cs v
def CW(E:Env)(kt vt:Ty)(e:fN)(x:kt.den×vt.den):Prop:=B7 E kt e.key x.1/\B7 E vt e.val x.2
theorem CW.mono{E E':Env}(h:sU E E'){kt vt:Ty}{e:fN}{x:kt.den×vt.den}(he:CW E kt vt e x):CW E' kt vt e x:=
 let⟨⟨c1,a1,b1⟩,c2,a2,b2⟩:=he
 ⟨⟨c1,a1.mono h,b1⟩,c2,a2.mono h,b2⟩
def aaj(E:Env)(kt vt:Ty)(es:List fN)(l:List (kt.den×vt.den)):Prop:=∃l',Alike (CW E kt vt) es l'/\l'.Perm l
theorem aaj.mono{E E':Env}(h:sU E E'){kt vt:Ty}{es:List fN}{l:List (kt.den×vt.den)}(hm:aaj E kt vt es l):aaj E' kt vt es l:=
 let⟨l',h1,h2⟩:=hm
 ⟨l',h1.mono λ_ _ he=>he.mono h,h2⟩
def oh(es:List fN)(clock:Nat):Prop:=(es.map (·.born)).Nodup/\∀e∈es,e.born < clock
theorem oh.nil(n:Nat):oh [] n:=⟨gV,λ_ h=>(by cases h)⟩
theorem oh.push{es:List fN}{clock:Nat}(h:oh es clock){e:fN}(he:e.born=clock):oh (es++ [e]) (clock+1):=by
 refine⟨?_,λx hx=> ?_⟩
 ·rw[List.map_append,List.nodup_append];refine⟨h.1,by simp,λa ha b hb=> ?_⟩;obtain⟨x,hx,rfl⟩:=dO.1 ha;have:=h.2 x hx;simp only[cr,iU,bw]at hb;omega
 ·rcases bC.1 hx with hx | hx
  ·have:=h.2 x hx;omega
  ·rw[bw]at hx;subst hx;omega
theorem oh.erase{es:List fN}{clock:Nat}(h:oh es clock)(j:Nat):oh (es.eraseIdx j) clock:=⟨h.1.sublist ((List.eraseIdx_sublist es j).map _),λx hx=>h.2 x ((List.eraseIdx_sublist es j).subset hx)⟩
theorem oh.set{es:List fN}{clock:Nat}(h:oh es clock){j:Nat}{e x:fN}(hj:es[j]? =ao e)(hx:x.born=e.born):oh (es.set j x) clock:=by
 have je:=(dN.1 hj).1;have aKx:=(dN.1 hj).2;have e1:(es.set j x).map (·.born)=es.map (·.born):=by
  rw[List.map_set,hx,<-aKx];have:es[j].born=(es.map (·.born))[j]'(by simpa using je):=by simp
  rw[this,gm]
 refine⟨by rw[e1];exact h.1,λy hy=> ?_⟩;rcases List.mem_or_eq_of_mem_set hy with hy | hy
 ·exact h.2 y hy
 ·rw[hy,hx,<-aKx];exact h.2 _ (aV je)
def aIl(E:Env)(id:Id)(kt vt:Ty)(l:List (kt.den×vt.den)):Prop:=
 ∃pl es clock,E.β id=ao pl/\E.w.heap[pl.b]? =ao (.map es clock)/\E.g pl.b= .own (.id id) 0/\(aaj E kt vt es.toList l/\(l.map (·.1)).Nodup)/\oh es.toList clock
def aC4(E:Env)(i q:Id)(ver:Nat)(kt vt:Ty)(rest:List (kt.den×vt.den))(cur:Option (kt.den×vt.den)):Prop:=
 ∃pl mb since seen c0,E.β i=ao pl/\E.w.heap[pl.b]? =ao (.mapIter (ao mb) since seen c0)/\E.g pl.b= .own (.id i) 0/\∀vr,ver=vr+1->E.Eg q vr/\
  (E.cur q vr->(∃k v l,E.s q=ao (.obj vr aT (.mp k v l)))/\∃plq es clock,E.β q=ao plq/\plq.b=mb/\E.w.heap[plq.b]? =ao (.map es clock)/\E.g plq.b= .own (.id q) 0/\
   (∀x∈es.toList,x.born < since)/\(since<=c0/\since<=clock)/\(es.toList.map (·.born)).Nodup/\aaj E kt vt (es.toList.filter λe=> !seen.contains e.born) rest/\
   ∀x,cur=ao x->∃(e:fN) (seen':Array Nat),e∈es.toList/\seen=seen'.push e.born/\c0=clock/\CW E kt vt e x)
def agZ:Nat->LoopState->Option Code->Prop
 | 0,st,pe=>st= .ready/\pe=aJ
 | 1,st,_=>st= .busy
 | 2,st,pe=>st= .done/\pe=ao .ret
 |n+3,st,pe=>st= .done/\pe=ao (.exit n)
def CX(E:Env)(f:aD)(tmps:Array Value):Prop:=f.list.length=tmps.size/\∀i,VS E (f.list.getD i .undef) (tmps.getD i undef)
def aIm(E:Env)(id:Id)(c:uk)(f:aD)(p:Nat):Prop:=∃pl r,E.β id=ao pl/\E.w.heap[pl.b]? =ao (.loop r)/\E.g pl.b= .own (.id id) 0/\(r.params=c.ps/\r.assign=c.as/\r.body=c.b)/\CX E f r.tmps/\agZ p r.state r.pending
def vK(E:Env)(id:Id)(fr:Bool):aD->Prop
 | .yZ c f p=>aIm E id c f p
 | .vec e t l=>aC9 E id fr e t l
 | .mp kt vt l=>aIl E id kt vt l
 | .qo q ver kt vt rest cur=>aC4 E id q ver kt vt rest cur
 |c=>NM E id fr c
theorem vK.box{E:Env}{id:Id}{fr:Bool}{c:aD}(h:vK E id fr c)(hn:c.il=aR):NM E id fr c:=by cases c <;> first | exact h | (simp[aD.il]at hn)
theorem NM.obj{E:Env}{id:Id}{fr:Bool}{c:aD}(h:NM E id fr c):vK E id fr c:=by cases c <;> first | exact h | (obtain⟨_,_,_,_,_,_,_,hv⟩:=h;simp only[aD.strip,V]at hv)
def iN(E:Env):Prop:=∀id ver fr c,E.s id=ao (.obj ver fr c)->vK E id fr c
structure Trans(w w':bW)(g g':Nat->lY):Prop where
 os:w'.os=w.os
 tape:w'.tape=w.tape
 output:w'.output=w.output/\w.drawn<=w'.drawn
 size:w.heap.size<=w'.heap.size
 xo:∀b,b < w.heap.size->match g b with
  | .free=>g' b= .free/\w'.heap[b]? =w.heap[b]?
  | .own .eL k=>g' b= .own .eL k/\w'.heap[b]? =w.heap[b]?
  | .own (.id _) k=>(g' b= .free\/∃i k',g' b= .own (.id i) k'/\k<=k')/\∀off v,off < k->w.cell? ⟨b,off,aJ⟩=ao v->w'.cell? ⟨b,off,aJ⟩=ao v
theorem Trans.refl(w:bW)(g:Nat->lY):Trans w w g g:=
 ⟨rfl,rfl,⟨rfl,aF _⟩,aF _,λb _=>by
  cases g b with
  |free=>exact⟨rfl,rfl⟩
  |own o k=>cases o with
   |eL=>exact⟨rfl,rfl⟩
   |id i=>exact⟨.inr ⟨i,k,rfl,aF _⟩,λ_ _ _ h=>h⟩⟩
theorem Trans.trans{w w' w'':bW}{g g' g'':Nat->lY}(h:Trans w w' g g')(h':Trans w' w'' g' g''):Trans w w'' g g'':=by
 refine⟨h'.os.trans h.os,h'.tape.trans h.tape,⟨h'.output.1.trans h.output.1,kV h.output.2 h'.output.2⟩,kV h.size h'.size,λb hb=> ?_⟩;have h1:=h.xo b hb;have h2:=h'.xo b (Nat.lt_of_lt_of_le hb h.size);cases hg:g b with
 |free=>
  rw[hg]at h1;simp only at h1 ⊢;rw[h1.1]at h2;simp only at h2;exact⟨h2.1,h2.2.trans h1.2⟩
 |own o k=>
  cases o with
  |eL=>
   rw[hg]at h1;simp only at h1 ⊢;rw[h1.1]at h2;simp only at h2;exact⟨h2.1,h2.2.trans h1.2⟩
  |id i=>
   rw[hg]at h1;simp only at h1 ⊢;obtain⟨aF6,aKj⟩:=h1;rcases aF6 with aF6 | ⟨i',k',aF6,hk⟩
   ·rw[aF6]at h2;simp only at h2;exact⟨.inl h2.1,λoff v ho hv=>by
     have:=aKj off v ho hv;simpa only[eN,h2.2]using this⟩
   ·rw[aF6]at h2;simp only at h2;refine⟨?_,λoff v ho hv=>h2.2 off v au (aKj off v ho hv)⟩;rcases h2.1 with aIz | ⟨i'',k'',aIz,hk'⟩
    ·exact .inl aIz
    ·exact .inr ⟨i'',k'',aIz,au⟩
theorem Trans.mem{E E':Env}(h:Trans E.w E'.w E.g E'.g):sU E E':=by
 refine⟨?_,λb ob hf ho=>by
  have h1:=h.xo b (bO.1 ho).1;rw[hf]at h1;exact⟨h1.1,h1.2.trans ho⟩⟩
 intro b off v ⟨hc,ho⟩;have hb:b < E.w.heap.size:=World.block_lt_of_cell? _ _ hc;have h1:=h.xo b hb;unfold Env.has sM at*;cases hg:E.g b with
 |free=>
  rw[hg]at h1;simp only at h1;refine⟨?_,by rw[h1.1];trivial⟩;simpa only[eN,h1.2]using hc
 |own o k=>
  rw[hg]at ho;simp only at ho;cases o with
  |eL=>
   rw[hg]at h1;simp only at h1;refine⟨?_,by rw[h1.1];exact ho⟩;simpa only[eN,h1.2]using hc
  |id i=>
   rw[hg]at h1;simp only at h1;refine⟨h1.2 off v ho hc,?_⟩;rcases h1.1 with h2 | ⟨i',k',h2,hk⟩
   ·rw[h2];trivial
   ·rw[h2];show off < k';omega
theorem CX.mono{E E':Env}(h:cU E E'){f:aD}{tmps:Array Value}(hs:CX E f tmps):CX E' f tmps:=⟨hs.1,λi=>(hs.2 i).mono h⟩
theorem vK.aCJ{E E':Env}(h:cU E E'){id:Id}{fr:Bool}{c:aD}(ho:vK E id fr c)(hβ:E'.β id=E.β id)
    (hb:∀pl,E.β id=ao pl->E'.w.heap[pl.b]? =E.w.heap[pl.b]? /\E'.g pl.b=E.g pl.b)
    (hq:∀q ver k v l,(∃kt vt rest cu,c= .qo q (ver+1) kt vt rest cu)->E.s q=ao (.obj ver aT (.mp k v l))->E'.cur q ver->(∃k v l,E'.s q=ao (.obj ver aT (.mp k v l)))/\∀pl,E.β q=ao pl->E'.w.heap[pl.b]? =E.w.heap[pl.b]? /\E'.g pl.b=E.g pl.b):vK E' id fr c:=by
  by_cases hn:c.il=aR
  · obtain⟨pl,cur,e,h1,h2,h3,h5,h4⟩:=ho.box hn
    obtain⟨b1,b2⟩:=hb pl h1;exact NM.obj ⟨pl,cur,e,by rw[hβ,h1],by rw[b1,h2],by rw[b2,h3],h5,h4.mono h⟩
  · cases c <;> first
      | (exact absurd rfl hn)
      | (obtain⟨pl,r,h1,h2,h3,h4,h5,h6⟩:=ho
         obtain⟨b1,b2⟩:=hb pl h1;exact⟨pl,r,by rw[hβ,h1],by rw[b1,h2],by rw[b2,h3],h4,h5.mono h,h6⟩)
      | (obtain⟨pl,es,clock,h1,h2,h3,h4⟩:=ho
         obtain⟨b1,b2⟩:=hb pl h1;exact⟨pl,es,clock,by rw[hβ,h1],by rw[b1,h2],by rw[b2,h3],⟨h4.1.1.mono h.mem,h4.1.2⟩,h4.2⟩)
      | (obtain⟨pl,mb,since,seen,c0,h1,h2,h3,hv⟩:=ho
         obtain⟨b1,b2⟩:=hb pl h1;refine⟨pl,mb,since,seen,c0,by rw[hβ,h1],by rw[b1,h2],by rw[b2,h3],λvr ah3=> ?_⟩;obtain⟨h4,h5⟩:=hv vr ah3;refine⟨h.Eg _ _ h4,λhc=> ?_⟩;obtain⟨c1,e1⟩:=h.cur _ _ h4 hc;obtain⟨⟨k,v,l,hk⟩,plq,es,clock,g1,g2,g3,g4,g5,g6,g7,g8,g9⟩:=h5 c1;obtain⟨q1,q2⟩:=hq _ _ _ _ _ ⟨_,_,_,_,by rw[ah3]⟩ hk hc;obtain⟨q3,q4⟩:=q2 plq g1;exact⟨q1,plq,es,clock,by rw[e1,g1],g2,by rw[q3,g3],by rw[q4,g4],g5,g6,g7,g8.mono h.mem,λx hx=>
           let⟨e,se,a1,a2,a3,a4⟩:=g9 x hx
           ⟨e,se,a1,a2,a3,a4.mono h.mem⟩⟩)
      |skip
    rename_i e t l;obtain⟨hz,ho⟩:=ho;refine⟨hz,?_⟩;rw[hβ];cases hp:E.β id with
    |none=>rw[hp]at ho;exact ho
    |some pl=>
      rw[hp]at ho;simp only at ho ⊢;obtain⟨b1,b2⟩:=hb pl hp;obtain⟨cur,k,h1,h2,h3,h4,h5,h6,h7,h8⟩:=ho;exact⟨cur,k,by rw[b1,h1],h2,h3,h4,by rw[b2,h5],h6,h7,h8.mono λc x hx=>hx.mono h.mem⟩
theorem vK.mono{E E':Env}(h:cU E E'){id:Id}{fr:Bool}{c:aD}(ho:vK E id fr c)(hβ:E'.β id=E.β id)(hb:∀pl,E.β id=ao pl->E'.w.heap[pl.b]? =E.w.heap[pl.b]? /\E'.g pl.b=E.g pl.b)(hq:∀q ver k v l,E.s q=ao (.obj ver aT (.mp k v l))->E'.cur q ver->(∃k v l,E'.s q=ao (.obj ver aT (.mp k v l)))/\∀pl,E.β q=ao pl->E'.w.heap[pl.b]? =E.w.heap[pl.b]? /\E'.g pl.b=E.g pl.b):vK E' id fr c:=ho.aCJ h hβ hb λq ver k v l _=>hq q ver k v l
def AS.env(s:AS)(w:bW)(g:Nat->lY)(β:Id->Option Pl):Env:= {w,g,β,s:=s.bU}
structure Ctx where
 E:Env
def Ctx.ok(C:Ctx):Prop:=(∀i j,C.E.s (.new i j)=aJ)/\∀k v fr c,C.E.s (.bF k)=ao (.obj v fr c)->v=0
def uw(D:Nat):Deferred:= {target:= .collected D,args:= #[]}
def alD(n:Nat)(ds:List Deferred)(w:bW)(g:Nat->lY):Prop:=ds.Nodup/\∀d∈ds,∃D,d=uw D/\n<=D/\w.heap[D]? =ao (.deferred (ao []))/\g D= .own .eL 0
theorem alD.mono{n:Nat}{ds:List Deferred}{w w':bW}{g g':Nat->lY}(h:alD n ds w g)(ht:Trans w w' g g'):alD n ds w' g':=
 ⟨h.1,λd hd=>by
  obtain⟨D,h1,h2,h3,h4⟩:=h.2 d hd;have:=ht.xo D (bO.1 h3).1;rw[h4]at this;exact⟨D,h1,h2,this.2.trans h3,this.1⟩⟩
structure Inv(C:Ctx)(g:Nat->lY)(β:Id->Option Pl)(s:AS)(a:Act)(w:bW):Prop where
 defers:alD C.E.w.heap.size a.defers w g
 size:a.tmps.size=s.ct.length
 ct:∀i,VS (s.env w g β) (s.slot i) (a.tmps.getD i undef)
 bN:iN (s.env w g β)
 trans:Trans C.E.w w C.E.g g
 le:cU C.E (s.env w g β)
def gT(C:Ctx)(s:AS)(a:Act)(w:bW):Prop:=∃g β,Inv C g β s a w
theorem Wh(s:AS)(d:Nat)(v:aD)(i:Nat):(s.put (ao d) v).slot i=if i=d/\d < s.ct.length then v else s.slot i:=by
 simp only[AS.put,AS.slot,aI,List.getElem?_set];by_cases h:d=i
 ·subst h;by_cases hl:d < s.ct.length
  ·simp[hl]
  ·simp[hl]
 ·simp[h,Ne.symm h]
@[simp] theorem Ha(s:AS)(d:Option Tmp)(v:aD):(s.put d v).bU=s.bU:=by cases d <;> rfl
@[simp] theorem aba(s:AS)(d:Option Tmp)(v:aD)(w:bW)(g:Nat->lY)(β:Id->Option Pl):(s.put d v).env w g β=s.env w g β:=by simp[AS.env]
theorem ahF(a:Act)(d:Nat)(v:Value)(i:Nat):(a.put (ao d) v).tmps.getD i undef=if i=d/\d < a.tmps.size then v else a.tmps.getD i undef:=by
 simp only[Act.put,cQ,ek];by_cases h:d=i
 ·subst h;by_cases hl:d < a.tmps.size
  ·simp[hl]
  ·simp[hl]
 ·simp[h,Ne.symm h]
theorem Inv.put{C:Ctx}{g:Nat->lY}{β:Id->Option Pl}{s:AS}{a:Act}{w:bW}(h:Inv C g β s a w)(d:Option Tmp){v:aD}{x:Value}(hv:VS (s.env w g β) v x):
  Inv C g β (s.put d v) (a.put d x) w:=by
 cases d with
 |none=>exact h
 |some d=>
  refine⟨h.defers,by simpa[Act.put,AS.put]using h.size,λi=> ?_,by simpa using h.bN,h.trans,by simpa using h.le⟩;rw[aba,Wh,ahF,h.size];split
  ·exact hv
  ·exact h.ct i
theorem Inv.step{C:Ctx}{g g':Nat->lY}{β β':Id->Option Pl}{s s':AS}{a:Act}{w w':bW}(h:Inv C g β s a w)(hs:s'.ct=s.ct)
  (ht:Trans w w' g g') (he:cU (s.env w g β) (s'.env w' g' β')) (ho:iN (s'.env w' g' β')):Inv C g' β' s' a w':=
 ⟨h.defers.mono ht,by rw[hs];exact h.size,λi=>by
  have:s'.slot i=s.slot i:=by simp[AS.slot,hs]
  rw[this];exact(h.ct i).mono he,ho,h.trans.trans ht,h.le.trans he⟩
theorem asF{E:Env}(v:Value):VS E (ofConst v) v:=by
 cases v with
 |bool b=>exact⟨_,by simp[ofConst,V,cI],rfl⟩
 |int k n=>exact⟨_,by simp[ofConst,V,cI],rfl⟩
 |string s=>exact⟨_,by simp[ofConst,V,cI],rfl⟩
 |slice a l c=>cases a with
  |none=>
   cases l with
   |zero=>cases c with
    |zero=>exact⟨_,by simp[ofConst,V],rfl⟩
    |succ _=>trivial
   |succ _=>trivial
  |some _=>trivial
 |pointer a=>cases a with
  |none=>exact⟨_,by simp[ofConst,V],rfl⟩
  |some _=>trivial
 |map r=>cases r with
  |none=>exact⟨_,by simp[ofConst,V],rfl⟩
  |some _=>trivial
 |nilFunc=>exact⟨_,by simp[ofConst,V],rfl⟩
 |_=>trivial
theorem Inv.ev{C:Ctx}{g:Nat->lY}{β:Id->Option Pl}{s:AS}{a:Act}{w:bW}(h:Inv C g β s a w)(x:bK):VS (s.env w g β) (s.ev x) (a.eval x):=by
 cases x with
 |tmp t=>exact h.ct t
 |const v=>exact asF v
 |func f=>exact⟨_,by simp only[AS.ev,V];exact⟨[],rfl,by simp[VC]⟩,rfl⟩
 |global _=>trivial
theorem eK(s:AS)(id:Id)(e:dU)(h:s.bU id≠aJ):(s.aZ id e).bU id=ao e:=by
 cases id with
 |bF k=>
  simp only[AS.bU,AS.aZ]at*;have hk:k < s.cn.length:=by
   rcases pC k s.cn.length with h' | h'
   ·exact h'
   ·exact absurd (dP h') h
  simp[hk]
 |new i j=>
  simp only[AS.bU,AS.aZ]at*;have hj:j < (s.news.getD i []).length:=by
   rcases pC j (s.news.getD i []).length with h' | h'
   ·exact h'
   ·exact absurd (dP h') h
  have hi:i < s.news.length:=by
   rcases pC i s.news.length with h' | h'
   ·exact h'
   ·simp[dP h']at hj
  have:((s.news.set i ((s.news.getD i []).set j e)).getD i [])=(s.news.getD i []).set j e:=by simp[aI,hi]
  rw[this];simp only[List.getElem?_set,hj,cY]
theorem dd(s:AS)(id id':Id)(e:dU)(h:id'≠id):(s.aZ id e).bU id'=s.bU id':=by
 cases id with
 |bF k=>
  cases id' with
  |bF k'=>
   simp only[AS.bU,AS.aZ];rw[eF (λe=>h (by rw[e]))]
  |new i j=>rfl
 |new i j=>
  cases id' with
  |bF k'=>rfl
  |new i' j'=>
   simp only[AS.bU,AS.aZ];by_cases hi:i'=i
   ·subst hi;have hj:j≠j':=λe=>h (by rw[e])
    by_cases hl:i' < s.news.length
    ·have:((s.news.set i' ((s.news.getD i' []).set j e)).getD i' [])=(s.news.getD i' []).set j e:=by simp[aI,hl]
     rw[this,eF hj]
    ·rw[List.set_eq_of_length_le au]
   ·have:(s.news.set i ((s.news.getD i []).set j e)).getD i' []=s.news.getD i' []:=by simp only[aI];rw[eF (Ne.symm hi)]
    rw[this]
@[simp] theorem dr(s:AS)(id:Id)(e:dU):(s.aZ id e).ct=s.ct:=by cases id <;> rfl
@[simp] theorem aEV(s:AS)(i:Nat)(es:List dU):(s.born i es).ct=s.ct:=rfl
theorem dZ{s:AS}{id:Id}{v:Nat}{fr:Bool}{c:aD}(h:s.obj id=ao (v,fr,c)):s.bU id=ao (.obj v fr c):=by
 unfold AS.obj at h;split at h
 ·rename_i h';simp at h;obtain⟨rfl,rfl,rfl⟩:=h;exact h'
 ·cases h
theorem cU.aZ{s:AS}{w w':bW}{g g':Nat->lY}{β β':Id->Option Pl}{id:Id}{v v':Nat}{fr fr':Bool}{c c':aD}(hs:s.bU id=ao (.obj v fr c))(hv:v<=v')
  (ht:Trans w w' g g') (hβ:∀i,i≠id->β' i=β i) (hβ':v'=v->β' id=β id):cU (s.env w g β) ((s.aZ id (.obj v' fr' c')).env w' g' β'):=by
 have lj:=eK s id (.obj v' fr' c') (by rw[hs];simp);refine⟨Trans.mem ht,λi ver hb=> ?_,λi ver hb hc=> ?_⟩
 ·by_cases hi:i=id
  ·subst hi;obtain⟨_,h2⟩:=hb;refine⟨by show(s.aZ i (.obj v' fr' c')).bU i≠aJ;rw[lj];simp,λv'' fr'' c'' he=> ?_⟩;have he':(s.aZ i (.obj v' fr' c')).bU i=ao (.obj v'' fr'' c''):=he;rw[lj]at he';simp only[az,dU.obj.injEq]at he';have:=h2 v fr c hs;omega
  ·have:=dd s id i (.obj v' fr' c') hi;obtain⟨h1,h2⟩:=hb;exact⟨by show(s.aZ id (.obj v' fr' c')).bU i≠aJ;rw[this];exact h1,λv'' fr'' c'' he=>h2 v'' fr'' c'' (this.symm.trans he)⟩
 ·obtain⟨fr'',c'',hc⟩:=hc;by_cases hi:i=id
  ·subst hi;have hc':(s.aZ i (.obj v' fr' c')).bU i=ao (.obj ver fr'' c''):=hc;rw[lj]at hc';simp only[az,dU.obj.injEq]at hc';have h2:=hb.2 v fr c hs;have e:v'=v:=au;refine⟨⟨fr,c,?_⟩,hβ' e⟩;rw[<-hc'.1,e];exact hs
  ·have hc':(s.aZ id (.obj v' fr' c')).bU i=ao (.obj ver fr'' c''):=hc;rw[dd s id i _ hi]at hc';exact⟨⟨fr'',c'',hc'⟩,hβ i hi⟩
theorem iN.aZ{s:AS}{w w':bW}{g g':Nat->lY}{β β':Id->Option Pl}{id:Id}{v':Nat}{fr':Bool}{c':aD}(h:iN (s.env w g β))(gj:s.bU id≠aJ)
  (he:cU (s.env w g β) ((s.aZ id (.obj v' fr' c')).env w' g' β')) (hβ:∀i,i≠id->β' i=β i)
  (hb:∀i ver fr c pl,i≠id->s.bU i=ao (.obj ver fr c)->β i=ao pl->w'.heap[pl.b]? =w.heap[pl.b]? /\g' pl.b=g pl.b)
  (ho:vK ((s.aZ id (.obj v' fr' c')).env w' g' β') id fr' c')
  (adz:∀ver k v l,s.bU id=ao (.obj ver aT (.mp k v l))->v'=ver/\fr'=aT/\(∃k v l,c'= .mp k v l)/\∀pl,β id=ao pl->w'.heap[pl.b]? =w.heap[pl.b]? /\g' pl.b=g pl.b):iN ((s.aZ id (.obj v' fr' c')).env w' g' β'):=by
 intro i ver fr c hi;by_cases de:i=id
 ·subst de;have hi':(s.aZ i (.obj v' fr' c')).bU i=ao (.obj ver fr c):=hi;rw[eK s i _ gj]at hi';simp only[az,dU.obj.injEq]at hi';obtain⟨rfl,rfl,rfl⟩:=hi';exact ho
 ·have hi':(s.aZ id (.obj v' fr' c')).bU i=ao (.obj ver fr c):=hi;rw[dd s id i _ de]at hi';refine(h i ver fr c hi').mono he (hβ i de) (λpl hp=>hb i ver fr c pl de hi' hp) λq vq k v l hq hc=> ?_
  have hq:s.bU q=ao (.obj vq aT (.mp k v l)):=hq;by_cases aJc:q=id
  ·subst aJc;obtain⟨rfl,rfl,⟨k',v',l',rfl⟩,aDQ⟩:=adz _ _ _ _ hq;exact⟨⟨k',v',l',eK s q _ gj⟩,aDQ⟩
  ·exact⟨⟨k,v,l,by show(s.aZ id _).bU q=_;rw[dd s id q _ aJc];exact hq⟩,λpl hp=>hb q vq aT _ pl aJc hq hp⟩
theorem Sa{s:AS}{w:bW}{g:Nat->lY}{β:Id->Option Pl}{id:Id}{v:Nat}{fr:Bool}{c:aD}(hs:s.bU id=ao (.obj v fr c)):
  ∀ver k v1 l,s.bU id=ao (.obj ver aT (.mp k v1 l))->v=ver/\aT=aT/\(∃k v l,c= .mp k v l)/\∀pl,β id=ao pl->w.heap[pl.b]? =w.heap[pl.b]? /\g pl.b=g pl.b:=λver k v1 l hl=>by
 rw[hs]at hl;cases hl;exact⟨rfl,rfl,⟨_,_,_,rfl⟩,λ_ _=>⟨rfl,rfl⟩⟩
theorem pP{s:AS}{id:Id}{v:Nat}{fr:Bool}{c:aD}(hs:s.bU id=ao (.obj v fr c))(hc:∀k v1 l,c≠ .mp k v1 l){Q:Nat->Prop}:
  ∀ver k v1 l,s.bU id=ao (.obj ver aT (.mp k v1 l))->Q ver:=λver k v1 l hl=>by
 rw[hs]at hl;cases hl;exact absurd rfl (hc _ _ _)
theorem L7{s:AS}{id:Id}{v:Nat}{c:aD}(hs:s.bU id=ao (.obj v aR c)){Q:Nat->Prop}:
  ∀ver k v1 l,s.bU id=ao (.obj ver aT (.mp k v1 l))->Q ver:=λver k v1 l hl=>by
 rw[hs]at hl;cases hl
theorem Af{s:AS}{id:Id}{v:Nat}{fr:Bool}{c:aD}(hs:s.bU id=ao (.obj v fr c))(h:s.ua id=aT):fr=aR:=by
 have e:s.obj id=ao (v,fr,c):=by simp[AS.obj,hs]
 unfold AS.ua at h;rw[e]at h;simpa using h
theorem vK.label{E:Env}{id:Id}{fr:Bool}{c:aD}(h:vK E id fr c){pl:Pl}(hp:E.β id=ao pl):
    pl.b < E.w.heap.size/\((∃k,E.g pl.b= .own (.id id) k)\/(fr=aT/\E.g pl.b= .free)):=by
  by_cases hn:c.il=aR
  · obtain⟨pl',cur,e,h1,h2,h3,h4⟩:=h.box hn
    rw[hp]at h1;obtain rfl:pl=pl':=by simpa using h1
    refine⟨(bO.1 h2).1,?_⟩;cases fr with
    |true=>exact .inr ⟨rfl,h3⟩
    |false=>exact .inl ⟨0,h3⟩
  · cases c <;> first
      | (exact absurd rfl hn)
      | (obtain⟨pl',r,h1,h2,h3,_,_,_⟩:=h
         rw[hp]at h1;obtain rfl:pl=pl':=by simpa using h1
         exact⟨(bO.1 h2).1,.inl ⟨0,h3⟩⟩)
      | (obtain⟨pl',es,clock,h1,h2,h3,_⟩:=h
         rw[hp]at h1;obtain rfl:pl=pl':=by simpa using h1
         exact⟨(bO.1 h2).1,.inl ⟨0,h3⟩⟩)
      | (obtain⟨pl',mb,since,seen,c0,h1,h2,h3,_⟩:=h
         rw[hp]at h1;obtain rfl:pl=pl':=by simpa using h1
         exact⟨(bO.1 h2).1,.inl ⟨0,h3⟩⟩)
      |skip
    obtain⟨_,h⟩:=h;rw[hp]at h;obtain⟨cur,k,h1,_,_,_,h5,_⟩:=h;exact⟨(bO.1 h1).1,.inl ⟨k,h5⟩⟩
def nu{α:Type}(f:Nat->α)(b:Nat)(x:α):Nat->α:=λb'=>if b'=b then x else f b'
@[simp] theorem fH{α:Type}(f:Nat->α)(b:Nat)(x:α):nu f b x b=x:=by simp[nu]
theorem fC{α:Type}(f:Nat->α)(b:Nat)(x:α){b':Nat}(h:b'≠b):nu f b x b'=f b':=by simp[nu,h]
def TW:aD->Nat->Prop
 | .vec _ t l,j=>j < l.length*t.size
 |_,_=>True
theorem TW.of{c:aD}(h:c.il=aR)(j:Nat):TW c j:=by cases c <;> first | trivial | (simp[aD.il]at h)
theorem ats{w:bW}{b:Nat}{es:Array fN}{clock:Nat}(h:w.heap[b]? =ao (.map es clock))(j:Nat):w.cell? ⟨b,j,aJ⟩=aJ:=by simp[eN,h]
theorem LC{C:Ctx}{g:Nat->lY}{β:Id->Option Pl}{s:AS}{a:Act}{w:bW}(h:Inv C g β s a w)(id:Id):
    ∃g',Inv C g' β (s.freeze id) a w/\cU (s.env w g β) ((s.freeze id).env w g' β)/\Trans w w g g'/\
      (∀v fr c,s.bU id=ao (.obj v fr c)->∀pl,β id=ao pl->∀j x,w.cell? ⟨pl.b,j,aJ⟩=ao x->
        TW c j->sM g' pl.b j):=by
  unfold AS.freeze;cases hs:s.bU id with
  |none=>exact⟨g,h,cU.refl _,Trans.refl _ _,λ_ _ _ hh=>by cases hh⟩
  |some e=>
    cases e with
    |dead=>exact⟨g,h,cU.refl _,Trans.refl _ _,λ_ _ _ hh=>by cases hh⟩
    |obj v fr c=>
      simp only;have kA:vK (s.env w g β) id fr c:=h.bN id v fr c hs;cases hp:β id with
      |none=>
        have ht:=Trans.refl w g;have he:cU (s.env w g β) ((s.aZ id (.obj v aT c)).env w g β):=cU.aZ hs (aF _) ht (λ_ _=>rfl) (λ_=>rfl);refine⟨g,h.step (dr _ _ _) ht he ?_,he,ht,λ_ _ _ _ pl Rw=>by cases Rw⟩;refine iN.aZ h.bN (by rw[hs];simp) he (λ_ _=>rfl) (λ_ _ _ _ _ _ _ _=>⟨rfl,rfl⟩) ?_ (Sa hs)
        by_cases hn:c.il=aR
        · obtain⟨pl,_,_,h1,_⟩:=kA.box hn
          have h1':β id=ao pl:=h1;rw[hp]at h1';cases h1'
        · cases c <;> first
            | (exact absurd rfl hn)
            | (obtain⟨pl,_,h1,_⟩:=kA
               have h1':β id=ao pl:=h1;rw[hp]at h1';cases h1')
            | (obtain⟨pl,_,_,h1,_⟩:=kA
               have h1':β id=ao pl:=h1;rw[hp]at h1';cases h1')
            | (obtain⟨pl,_,_,_,_,h1,_⟩:=kA
               have h1':β id=ao pl:=h1;rw[hp]at h1';cases h1')
            |skip
          obtain⟨hz,ho⟩:=kA;have ho':(match β id with
            |none=>_
            |some pl=>_):=ho
          refine⟨hz,?_⟩;show(match β id with
            |none=>_
            |some pl=>_)
          rw[hp]at ho' ⊢;exact ho'
      |some pl=>
        have apA:=kA.label (pl:=pl) hp;by_cases hn:c.il=aR
        · obtain⟨pl',cur,e,h1,h2,h3,h5,h4⟩:=kA.box hn
          have h1':β id=ao pl':=h1;rw[hp]at h1';obtain rfl:pl=pl':=by simpa using h1'
          have h3':g pl.b=aiG id fr:=h3;have ht:Trans w w g (nu g pl.b .free):=by
            refine⟨rfl,rfl,⟨rfl,aF _⟩,aF _,λb hb=> ?_⟩;by_cases abq:b=pl.b
            · subst abq
              rw[h3',fH];cases fr with
              |true=>exact⟨rfl,rfl⟩
              |false=>exact⟨.inl rfl,λ_ _ _ hh=>hh⟩
            · rw[fC _ _ _ abq]
              exact(Trans.refl w g).xo b hb
          have he:cU (s.env w g β) ((s.aZ id (.obj v aT c)).env w (nu g pl.b .free) β):=cU.aZ hs (aF _) ht (λ_ _=>rfl) (λ_=>rfl);refine⟨nu g pl.b .free,h.step (dr _ _ _) ht he ?_,he,ht,?_⟩
          · refine iN.aZ h.bN (by rw[hs];simp) he (λ_ _=>rfl) (λi ver fr' c' pl' hi cP Rw=>⟨rfl,?_⟩) ?_ (pP hs λk v1 l e=>by rw[e]at hn;simp[aD.il]at hn)
            · by_cases abq:pl'.b=pl.b
              · rw[abq,fH]
                have hl:=(h.bN i ver fr' c' cP).label (pl:=pl') Rw;have ajo:(∃k,g pl'.b= .own (.id i) k)\/(fr'=aT/\g pl'.b= .free):=hl.2;rw[abq,h3']at ajo;cases fr with
                |true=>exact h3'.symm▸rfl
                |false=>
                  exfalso;rcases ajo with⟨k,hk⟩ | ⟨_,hk⟩
                  · simp only[aiG,lY.own.injEq,Own.id.injEq]at hk
                    exact hi hk.1.symm
                  · cases hk
              · rw[fC _ _ _ abq]
            · exact NM.obj ⟨pl,cur,e,hp,h2,fH _ _ _,h5,V.mono he h4⟩
          · intro v1 fr1 c1 hh pl1 abu j x hx hj
            obtain rfl:pl=pl1:=by simpa using abu
            unfold sM;rw[fH];trivial
        · cases c <;> first | (exact absurd rfl hn) | skip
          rotate_left;rotate_left
          · rename_i q vq kt vt rest cu
            have ht:=Trans.refl w g;have he:cU (s.env w g β) ((s.aZ id (.obj v aT (.qo q vq kt vt rest cu))).env w g β):=cU.aZ hs (aF _) ht (λ_ _=>rfl) (λ_=>rfl);have hob':=kA;obtain⟨pl',mb,since,seen,c0,h1,h2,_⟩:=kA;have h1':β id=ao pl':=h1;rw[hp]at h1';obtain rfl:pl=pl':=by simpa using h1'
            refine⟨g,h.step (dr _ _ _) ht he ?_,he,ht,λ_ _ _ _ pl1 abu j x hx _=> ?_⟩
            · refine iN.aZ h.bN (by rw[hs];simp) he (λ_ _=>rfl) (λ_ _ _ _ _ _ _ _=>⟨rfl,rfl⟩) ?_ (Sa hs)
              exact vK.mono he (fr:=aT) hob' rfl (λ_ _=>⟨rfl,rfl⟩) λq2 v2 k2 v3 l2 Oi _=>⟨⟨k2,v3,l2,by
                have Oi:s.bU q2=ao (.obj v2 aT (.mp k2 v3 l2)):=Oi;have gj:q2≠id:=λe=>by rw[e,hs]at Oi;cases Oi
                show(s.aZ id _).bU q2=_;rw[dd s id q2 _ gj];exact Oi⟩,λ_ _=>⟨rfl,rfl⟩⟩
            · obtain rfl:pl=pl1:=by simpa using abu
              have h2:w.heap[pl.b]? =ao (.mapIter (ao mb) since seen c0):=h2
              simp[eN,h2]at hx
          · rename_i k f p
            have ht:=Trans.refl w g;have he:cU (s.env w g β) ((s.aZ id (.obj v aT (.yZ k f p))).env w g β):=cU.aZ hs (aF _) ht (λ_ _=>rfl) (λ_=>rfl);obtain⟨pl',r,h1,h2,h3,h4,h5,h6⟩:=kA;have h1':β id=ao pl':=h1;rw[hp]at h1';obtain rfl:pl=pl':=by simpa using h1'
            refine⟨g,h.step (dr _ _ _) ht he ?_,he,ht,λ_ _ _ _ pl1 abu j x hx _=> ?_⟩
            · exact iN.aZ h.bN (by rw[hs];simp) he (λ_ _=>rfl) (λ_ _ _ _ _ _ _ _=>⟨rfl,rfl⟩) ⟨pl,r,hp,h2,h3,h4,h5.mono he,h6⟩ (Sa hs)
            · obtain rfl:pl=pl1:=by simpa using abu
              have h2:w.heap[pl.b]? =ao (.loop r):=h2
              simp[eN,h2]at hx
          rotate_left
          · obtain⟨pl',es,clock,h1,h2,h3,h4⟩:=kA
            have h1':β id=ao pl':=h1;rw[hp]at h1';obtain rfl:pl=pl':=by simpa using h1'
            have ht:=Trans.refl w g;rename_i kt vt l;have he:cU (s.env w g β) ((s.aZ id (.obj v aT (.mp kt vt l))).env w g β):=cU.aZ hs (aF _) ht (λ_ _=>rfl) (λ_=>rfl);refine⟨g,h.step (dr _ _ _) ht he ?_,he,ht,λ_ _ _ _ pl1 abu j x hx _=> ?_⟩
            · exact iN.aZ h.bN (by rw[hs];simp) he (λ_ _=>rfl) (λ_ _ _ _ _ _ _ _=>⟨rfl,rfl⟩) ⟨pl,es,clock,hp,h2,h3,⟨h4.1.1.mono he.mem,h4.1.2⟩,h4.2⟩ (Sa hs)
            · obtain rfl:pl=pl1:=by simpa using abu
              have h2:w.heap[pl.b]? =ao (.map es clock):=h2
              rw[ats h2]at hx;cases hx
          rename_i e t l;obtain⟨hz,ho⟩:=kA;have ho':(match β id with
            |none=>l=[]
            |some pl=>∃cur k,w.heap[pl.b]? =ao (.cells cur e (0,0))/\cur.size=pl.cap*t.size/\l.length<=pl.cap/\pl.cap<=maxLen/\g pl.b= .own (.id id) k/\
                k<=l.length*t.size/\(fr=aR->k=0)/\bq (cI (s.env w g β) t) (cur.toList.take (l.length*t.size)) l):=ho
          rw[hp]at ho';obtain⟨cur,k,h1,h2,h3,h4,h5,h6,h7,h8⟩:=ho';have ht:Trans w w g (nu g pl.b (.own (.id id) (l.length*t.size))):=by
            refine⟨rfl,rfl,⟨rfl,aF _⟩,aF _,λb hb=> ?_⟩;by_cases abq:b=pl.b
            · subst abq
              rw[h5,fH];exact⟨.inr ⟨id,_,rfl,h6⟩,λ_ _ _ hh=>hh⟩
            · rw[fC _ _ _ abq]
              exact(Trans.refl w g).xo b hb
          have he:cU (s.env w g β) ((s.aZ id (.obj v aT (.vec e t l))).env w (nu g pl.b (.own (.id id) (l.length*t.size))) β):=cU.aZ hs (aF _) ht (λ_ _=>rfl) (λ_=>rfl);refine⟨_,h.step (dr _ _ _) ht he ?_,he,ht,?_⟩
          · refine iN.aZ h.bN (by rw[hs];simp) he (λ_ _=>rfl) (λi ver fr' c' pl' hi cP Rw=>⟨rfl,?_⟩) ?_ (pP hs λk v1 l e=>by cases e)
            · by_cases abq:pl'.b=pl.b
              · exfalso
                have hl:=(h.bN i ver fr' c' cP).label (pl:=pl') Rw;have ajo:(∃k,g pl'.b= .own (.id i) k)\/(fr'=aT/\g pl'.b= .free):=hl.2;rw[abq,h5]at ajo;rcases ajo with⟨k,hk⟩ | ⟨_,hk⟩
                · simp only[lY.own.injEq,Own.id.injEq]at hk
                  exact hi hk.1.symm
                · cases hk
              · rw[fC _ _ _ abq]
            · refine⟨hz,?_⟩
              show(match β id with
                |none=>l=[]
                |some pl=>_)
              rw[hp];exact⟨cur,_,h1,h2,h3,h4,fH _ _ _,aF _,(by intro hh;cases hh),h8.mono λc x hx=>hx.mono he.mem⟩
          · intro v1 fr1 c1 hh pl1 abu j x hx hj
            obtain rfl:pl=pl1:=by simpa using abu
            simp only[az,dU.obj.injEq]at hh;obtain⟨_,_,rfl⟩:=hh;unfold sM;rw[fH];exact hj
end Go.Ab
namespace Go.Ab
def aFM(E E':Env)(ids:List Id):Prop:=∀id∈ids,∀v fr c,E.s id=ao (.obj v fr c)->∀pl,E.β id=ao pl->∀j x,E.w.cell? ⟨pl.b,j,aJ⟩=ao x->TW c j->E'.has pl.b j x
theorem Tx{s:AS}{id i:Id}{v:Nat}{fr:Bool}{c:aD}(h:s.bU i=ao (.obj v fr c)):∃fr',(s.freeze id).bU i=ao (.obj v fr' c):=by
 unfold AS.freeze;by_cases hi:i=id
 ·subst hi;rw[h];exact⟨aT,eK s i _ (by rw[h];simp)⟩
 ·split
  ·exact⟨fr,by rw[dd s id i _ hi];exact h⟩
  ·exact⟨fr,h⟩
theorem fb{C:Ctx}{β:Id->Option Pl}{a:Act}{w:bW}:∀(ids:List Id) {g:Nat->lY} {s:AS},Inv C g β s a w->
  ∃g',Inv C g' β (s.bt ids) a w/\cU (s.env w g β) ((s.bt ids).env w g' β)/\Trans w w g g'/\aFM (s.env w g β) ((s.bt ids).env w g' β) ids
 |[],g,s,h=>⟨g,h,cU.refl _,Trans.refl _ _,λ_ hi=>by cases hi⟩
 |id::ids,g,s,h=>by
  obtain⟨g1,h1,e1,t1,f1⟩:=LC h id;obtain⟨g2,h2,e2,t2,f2⟩:=fb ids h1;refine⟨g2,h2,e1.trans e2,t1.trans t2,λi hi v fr c hs pl hp j x hx hj=> ?_⟩;rcases cj.1 hi with rfl | hi
  ·exact e2.mem.has _ _ _ ⟨hx,f1 v fr c hs pl hp j x hx hj⟩
  ·obtain⟨fr',hs'⟩:=Tx (id:=id) hs;exact f2 i hi v fr' c hs' pl hp j x hx hj
theorem acQ(s:AS)(id:Id):(s.freeze id).ct=s.ct:=by unfold AS.freeze;split <;> simp
theorem nF:∀(ids:List Id) (s:AS),(s.bt ids).ct=s.ct
 |[],_=>rfl
 |id::ids,s=>by rw[AS.bt,nF ids,acQ]
theorem agc(s:AS)(id:Id)(q:Nat):(s.freeze id).ez q=s.ez q:=by
 unfold AS.freeze;split
 ·rename_i v b c h;cases id with
  |bF k=>rfl
  |new i j=>
   simp only[AS.aZ,AS.ez];by_cases hq:i=q
   ·subst hq;simp only[AS.bU]at h;by_cases hl:i < s.news.length
    ·rw[List.getElem?_set_self hl,bQ hl];rw[aI,bQ hl]at h ⊢;simp only[dz]at h ⊢;cases hh:s.news[i]with
     |nil=>rw[hh]at h;simp at h
     |cons x xs=>cases j <;> simp[gr]
    ·rw[List.set_eq_of_length_le au]
   ·rw[eF hq]
 ·rfl
theorem uM:∀(ids:List Id) (s:AS) (q:Nat),(s.bt ids).ez q=s.ez q
 |[],_,_=>rfl
 |id::ids,s,q=>by rw[AS.bt,uM ids,agc]
theorem Uh{e:TypeId}{t:Ty}:∀ {p:List Hw} {n:Nat} {v:aD},(loc (.vec e t []) p).eval=ao (n,v)->n=0/\v= .vec e t []
 |[],n,v,h=>by simp only[loc,ay,cK]at h;exact⟨h.1.symm,h.2.symm⟩
 | .arr::p,n,v,h=>by simp only[loc]at h;exact Uh h
 | .idx i::p,n,v,h=>by simp[loc,bS]at h
 | .fst::p,n,v,h=>by simp only[loc,aw]at h
 | .snd::p,n,v,h=>by simp only[loc,aw]at h
theorem Sd{k:uk}{f:aD}{m:Nat}:∀ {p:List Hw} {n:Nat} {v:aD},(loc (.yZ k f m) p).eval=ao (n,v)->n=0/\v= .yZ k f m
 |[],n,v,h=>by simp only[loc,ay,cK]at h;exact⟨h.1.symm,h.2.symm⟩
 | .arr::p,n,v,h=>by simp only[loc]at h;exact Sd h
 | .idx i::p,n,v,h=>by simp only[loc,aw]at h
 | .fst::p,n,v,h=>by simp only[loc,aw]at h
 | .snd::p,n,v,h=>by simp only[loc,aw]at h
theorem abK{k t:Ty}{l:List (k.den×t.den)}:∀ {p:List Hw} {n:Nat} {v:aD},(loc (.mp k t l) p).eval=ao (n,v)->n=0/\v= .mp k t l
 |[],n,v,h=>by simp only[loc,ay,cK]at h;exact⟨h.1.symm,h.2.symm⟩
 | .arr::p,n,v,h=>by simp only[loc]at h;exact abK h
 | .idx i::p,n,v,h=>by simp only[loc,aw]at h
 | .fst::p,n,v,h=>by simp only[loc,aw]at h
 | .snd::p,n,v,h=>by simp only[loc,aw]at h
theorem Sc{q:Id}{ver:Nat}{k t:Ty}{l:List (k.den×t.den)}{cu:Option (k.den×t.den)}:∀ {p:List Hw} {n:Nat} {v:aD},(loc (.qo q ver k t l cu) p).eval=ao (n,v)->n=0/\v= .qo q ver k t l cu
 |[],n,v,h=>by simp only[loc,ay,cK]at h;exact⟨h.1.symm,h.2.symm⟩
 | .arr::p,n,v,h=>by simp only[loc]at h;exact Sc h
 | .idx i::p,n,v,h=>by simp only[loc,aw]at h
 | .fst::p,n,v,h=>by simp only[loc,aw]at h
 | .snd::p,n,v,h=>by simp only[loc,aw]at h
theorem O6{E:Env}{s:AS}(hs:E.s=s.bU)(ho:iN E){id:Id}{ver:Nat}{p:List Hw}{n:Nat}{t:Ty}{l:List t.den}(h:(s.row id ver p).eval=ao (n,⟨t,l⟩)):
    ∃fr c,E.s id=ao (.obj ver fr c)/\((E.β id=aJ/\l=[]/\n=0)\/∃pl cur e,E.β id=ao pl/\E.w.heap[pl.b]? =ao (.cells cur e (0,0))/\n+l.length*t.size<=cur.size/\
      bq (cI E t) ((cur.toList.drop n).take (l.length*t.size)) l/\
      ∀j,j < n+l.length*t.size->TW c j):=by
  unfold AS.row at h;cases kA:s.obj id with
  |none=>rw[kA]at h;simp only[aw]at h
  |some r=>
    obtain⟨v,fr,c⟩:=r;rw[kA]at h;obtain⟨h1,h2⟩:=aG.1 h;obtain⟨⟨n',v'⟩,h3,h4⟩:=ax.1 h2;have hv:v=ver:=by simpa using h1
    subst hv;have cP:E.s id=ao (.obj v fr c):=by rw[hs];exact dZ kA
    refine⟨fr,c,cP,?_⟩;have hO:=ho id v fr c cP
    have ajk:∀(pl:Pl) (cur:Array Value) (e:TypeId) (m:Nat) (t':Ty) (l':List t'.den) (n':Nat),E.β id=ao pl->E.w.heap[pl.b]? =ao (.cells cur e (0,0))->c.il=aR->
        V E (.d (.arr m t') l') ((cur.toList.drop n').take (aD.d (.arr m t') l').size)->n'+(aD.d (.arr m t') l').size<=cur.toList.length->(Out.ok (n',(⟨t',l'⟩:(t:Ty)×List t.den))).eval=ao (n,⟨t,l⟩)->
        ∃pl cur e,E.β id=ao pl/\E.w.heap[pl.b]? =ao (.cells cur e (0,0))/\n+l.length*t.size<=cur.size/\bq (cI E t) ((cur.toList.drop n).take (l.length*t.size)) l/\
          ∀j,j < n+l.length*t.size->TW c j:=by
      intro pl cur e m t' l' n' hp hh hn hv hl he;simp only[ay,cK]at he;obtain⟨rfl,he⟩:=he;obtain⟨rfl,he⟩:=he;simp only[V,cI]at hv;obtain⟨ayO,NJ⟩:=hv;have sj:∀(t:Ty) (l:List t.den),l.length=m->(aD.d (.arr m t) l).size=l.length*t.size:=λt l hh=>by simp[aD.size,Ty.size,hh]
      rw[sj _ _ ayO]at NJ hl;exact⟨pl,cur,e,hp,hh,by simpa using hl,NJ,λj _=>TW.of hn j⟩
    by_cases hn:c.il=aR
    · right
      obtain⟨pl,cur,e,hp,hh,hg,hk,hV⟩:=hO.box hn;have hN:=RX hk;generalize c.vN cur.size=N at hN hV;have hNl:(cur.toList.take N).length=N:=by rw[cT,cR];omega
      obtain⟨u,hu⟩:∃u,c.strip=u:=⟨_,rfl⟩;rw[hu]at hV h3;have az2:∀m k:Nat,m+k<=(cur.toList.take N).length->((cur.toList.take N).drop m).take k=(cur.toList.drop m).take k/\m+k<=cur.toList.length:=λm k au2=>by rw[hNl]at au2;refine⟨?_,by rw[cR];omega⟩;rw[sT,l5,gC au]
      rcases sq p u (cur.toList.take N) n' v' (VO.of hV) h3 with⟨rfl,rfl⟩ | ⟨hV',hle⟩
      · cases v' with
        |d t' x=>cases t' with
          |arr m t'=>
            have hs:=hV.size;have hc:=az2 0 (aD.d (.arr m t') x).size au;refine ajk pl cur e m t' x 0 hp hh hn ?_ hc.2 (by simpa only using h4)
            rw[<-hc.1,aQ,bJ au];exact hV
          |_=>simp only[aw]at h4
        |vec=>simp only[V]at hV
        |_=>simp only[aw]at h4
      · cases v' with
        |d t' x=>cases t' with
          |arr m t'=>
            have hc:=az2 _ _ hle;exact ajk pl cur e m t' x n' hp hh hn (by rw[<-hc.1];exact hV') hc.2 (by simpa only using h4)
          |_=>simp only[aw]at h4
        |vec=>simp only[V]at hV'
        |_=>simp only[aw]at h4
    · cases c <;> first
        | (exact absurd rfl hn)
        | (obtain⟨rfl,rfl⟩:=abK h3
           simp only[aw]at h4)
        | (obtain⟨rfl,rfl⟩:=Sc h3
           simp only[aw]at h4)
        | (obtain⟨rfl,rfl⟩:=Sd h3
           simp only[aw]at h4)
        |skip
      rename_i e t0 l0;obtain⟨hz,hO⟩:=hO;cases hp:E.β id with
      |none=>
        rw[hp]at hO;have aGD:l0=[]:=hO;subst aGD;obtain⟨rfl,rfl⟩:=Uh h3;simp only[ay,cK]at h4;obtain⟨rfl,he⟩:=h4;obtain⟨rfl,he⟩:=he;exact .inl ⟨rfl,rfl,rfl⟩
      |some pl=>
        rw[hp]at hO;obtain⟨cur,k,q1,q2,q3,q4,q5,q6,q7,q8⟩:=hO;right;have hlen:(cur.toList.take (l0.length*t0.size)).length=l0.length*t0.size:=bq.length (λc x hx=>cI.size hx) q8;have au6:l0.length*t0.size<=cur.size:=by rw[q2];exact c8 _ q3
        rcases sq (E:=E) p (.vec e t0 l0) (cur.toList.take (l0.length*t0.size)) n' v' q8 h3 with⟨rfl,rfl⟩ | ⟨hV',hle⟩
        · simp only[ay,cK]at h4
          obtain⟨rfl,he⟩:=h4;obtain⟨rfl,he⟩:=he;exact⟨pl,cur,e,rfl,q1,au,by simpa using q8,λj hj=>by show j < l.length*t.size;omega⟩
        · have hle':=hle
          rw[hlen]at hle';rw[sT,l5,gC au]at hV';cases v' with
          |d t' x=>cases t' with
            |arr m t'=>
              simp only[ay,cK]at h4;obtain⟨rfl,he⟩:=h4;obtain⟨rfl,he⟩:=he;simp only[V,cI]at hV';obtain⟨ayO,NJ⟩:=hV';have sj:∀(t:Ty) (l:List t.den),l.length=m->(aD.d (.arr m t) l).size=l.length*t.size:=λt l hh=>by simp[aD.size,Ty.size,hh]
              rw[sj _ _ ayO]at NJ hle';refine⟨pl,cur,e,rfl,q1,au,NJ,λj hj=> ?_⟩;show j < l0.length*t0.size;omega
            |_=>simp only[aw]at h4
          |vec=>simp only[V]at hV'
          |_=>simp only[aw]at h4
theorem I5{E:Env}{t:Ty}{cs:List Value}{l:List t.den}(h:bq (cI E t) cs l)(i len:Nat):bq (cI E t) ((cs.drop (i*t.size)).take (len*t.size)) (cut l i len):=bq.take (λ_ _ hx=>hx.size) len (bq.drop (λ_ _ hx=>hx.size) i h)
theorem Di{α:Type}{l:List α}{i len:Nat}(h:i+len<=l.length):(cut l i len).length=len:=by simp[cut];omega
theorem ahs{E E':Env}{s:AS}(hs:E.s=s.bU)(ho:iN E)(he:cU E E'){id:Id}{ver c i len n:Nat}{p:List Hw}{t':Ty}{l:List t'.den}{cs:List Value}
  (h1:(s.row id ver p).eval=ao (n,⟨t',l⟩)) (h3:decide (n+i*t'.size=c/\i+len<=l.length)=aT) (hv:V E (.b8 id ver p c i len) cs) (hf:aFM E E' (aD.b8 id ver p c i len).shared):cI E' (.slice t') cs (cut l i len):=by
 simp only[aW]at h3;obtain⟨hc,hlen⟩:=h3;obtain⟨fr,c0,cP,sJ⟩:=O6 hs ho h1;simp only[V]at hv;obtain⟨a,cap,apx,hle,qh,hb,fD⟩:=hv;have fD:=fD ⟨fr,c0,cP⟩;have ayQ:(cut l i len).length=len:=Di hlen;simp only[cI];refine⟨a,cap,?_⟩;rcases sJ with⟨hp,hl,_⟩ | ⟨pl,cur,e,hp,hh,sj,uZ,hbound⟩
 ·rw[hp]at fD;simp only at fD;obtain⟨rfl,rfl,rfl⟩:=fD;refine⟨[],?_,au,au,λ_ _ hh=>by simp at hh,?_⟩
  ·rw[ayQ];exact apx
  ·have:cut l i 0=[]:=by simp[cut]
   rw[this];rfl
 ·rw[hp]at fD;simp only at fD;refine⟨((((cur.toList.drop n).take (l.length*t'.size)).drop (i*t'.size)).take (len*t'.size)),by rw[ayQ];exact apx,au,by rw[ayQ];exact qh,?_,(I5 uZ i len).mono λ_ _ hx=>hx.mono he.mem⟩;have hmul:(i+len)*t'.size<=l.length*t'.size:=c8 _ hlen;rw[eM]at hmul;rw[U6 _ _ _ _ _ hmul];intro j v hj;rw[c9]at hj;split at hj
  ·rename_i aD1;rw[fx,hc]at hj;have aIY:0 < len:=by
    rcases iM len with h0 | h0
    ·subst h0;simp at aD1
    ·exact h0
   refine⟨pl.b,c,fD.1 (.inl aIY),?_⟩;refine hf id (by simp[aD.shared]) ver fr c0 cP pl hp (c+j) v ?_ (hbound _ au)
   rw[cell_of_row E.w pl.b (c+j) cur e (0,0) hh];simpa using hj
  ·cases hj
theorem tV{E E':Env}{s:AS}(hs:E.s=s.bU)(ho:iN E)(he:cU E E'):∀(v:aD) (t:Ty) (x:t.den) (cs:List Value),V E v cs->(s.iK t v).eval=ao x->aFM E E' v.shared->cI E' t cs x
 | .d t' x',t,x,cs,hv,h,_=>by
  have h':(Out.opt (E9 t' t x')).eval=ao x:=by cases t <;> simpa only[AS.iK]using h
  simp only[V]at hv;exact C6 (jd.1 h') (hv.mono he.mem)
 | .dH,.slice t,x,cs,hv,h,_=>by simp only[AS.iK,ay]at h;subst h;simp only[V]at hv;simp only[cI];exact⟨aJ,0,[],by simpa using hv,by simp,by simp,λi v hh=>by simp at hh,rfl⟩
 | .dH,.fS t,x,cs,hv,h,_=>by simp only[AS.iK,ay]at h;subst h;simp only[V]at hv;simp only[cI];exact⟨λ_=>hv,λl hl=>(by cases hl)⟩
 | .b8 id ver p c i len,.fS t,x,cs,hv,h,hf=>by simp only[AS.iK]at h;obtain⟨⟨n,t',l⟩,h1,h2⟩:=ax.1 h;obtain⟨h3,h4⟩:=bS.1 h2;exact C6 (jd.1 h4) (ahs hs ho he h1 h3 hv hf)
 | .b8 id ver p c i len,.slice t,x,cs,hv,h,hf=>by simp only[AS.iK]at h;obtain⟨⟨n,t',l⟩,h1,h2⟩:=ax.1 h;obtain⟨h3,h4⟩:=bS.1 h2;exact C6 (jd.1 h4) (ahs hs ho he h1 h3 hv hf)
 | .pr a b,.pair ta tb,x,cs,hv,h,hf=>by simp only[AS.iK]at h;obtain⟨x1,h1,h2⟩:=ax.1 h;obtain⟨x2,h3,h4⟩:=ax.1 h2;obtain rfl:=ay.1 h4;simp only[V]at hv;obtain⟨ca,cb,e,ha,hb⟩:=hv;simp only[cI];exact⟨ca,cb,e,tV hs ho he a ta x1 ca ha h1 (λi hi=>hf i (by simp[aD.shared,hi])),tV hs ho he b tb x2 cb hb h3 (λi hi=>hf i (by simp[aD.shared,hi]))⟩
 | .dH,.int _,_,_,_,h,_ | .dH,.bool,_,_,_,h,_ | .dH,.str,_,_,_,h,_ | .dH,.unit,_,_,_,h,_ | .dH,.pair _ _,_,_,_,h,_ | .dH,.arr _ _,_,_,_,h,_ | .dH,.od _,_,_,_,h,_ | .dH,.gN _,_,_,_,h,_=>by simp only[AS.iK,aw]at h
 | .b8 ..,.int _,_,_,_,h,_ | .b8 ..,.bool,_,_,_,h,_ | .b8 ..,.str,_,_,_,h,_ | .b8 ..,.unit,_,_,_,h,_ | .b8 ..,.pair _ _,_,_,_,h,_ | .b8 ..,.arr _ _,_,_,_,h,_ | .b8 ..,.od _,_,_,_,h,_ | .b8 ..,.gN _,_,_,_,h,_=>by simp only[AS.iK,aw]at h
 | .pr _ _,.int _,_,_,_,h,_ | .pr _ _,.bool,_,_,_,h,_ | .pr _ _,.str,_,_,_,h,_ | .pr _ _,.unit,_,_,_,h,_ | .pr _ _,.slice _,_,_,_,h,_ | .pr _ _,.arr _ _,_,_,_,h,_ | .pr _ _,.fS _,_,_,_,h,_ | .pr _ _,.od _,_,_,_,h,_ | .pr _ _,.gN _,_,_,_,h,_=>by simp only[AS.iK,aw]at h
 | .undef,t,_,_,_,h,_=>by cases t <;> simp only[AS.iK,aw]at h
 | .gone,t,_,_,_,h,_=>by cases t <;> simp only[AS.iK,aw]at h
 | .kh,.od t,x,cs,hv,h,_=>by simp only[AS.iK,ay]at h;subst h;simp only[V]at hv;simp only[cI];exact⟨λ_=>hv,λy hy=>by cases hy⟩
 | .kh,.gN t,x,cs,hv,h,_=>by simp only[AS.iK,ay]at h;subst h;simp only[V]at hv;simp only[cI];exact⟨λ_=>hv,λy hy=>by cases hy⟩
 | .kh,.int _,_,_,_,h,_ | .kh,.bool,_,_,_,h,_ | .kh,.str,_,_,_,h,_ | .kh,.unit,_,_,_,h,_ | .kh,.pair _ _,_,_,_,h,_ | .kh,.arr _ _,_,_,_,h,_ | .kh,.slice _,_,_,_,h,_ | .kh,.fS _,_,_,_,h,_=>by simp only[AS.iK,aw]at h
 | .vY,t,_,_,_,h,_=>by cases t <;> simp only[AS.iK,aw]at h
 | .yl ..,t,_,_,_,h,_ | .yZ ..,t,_,_,_,h,_=>by cases t <;> simp only[AS.iK,aw]at h
 | .By,t,_,_,_,h,_=>by cases t <;> simp only[AS.iK,aw]at h
 | .sb _,t,_,_,_,h,_=>by cases t <;> simp only[AS.iK,aw]at h
 | .ptr ..,t,_,_,_,h,_=>by cases t <;> simp only[AS.iK,aw]at h
 | .eI ..,t,_,_,_,h,_=>by cases t <;> simp only[AS.iK,aw]at h
 | .fn ..,t,_,_,_,h,_=>by cases t <;> simp only[AS.iK,aw]at h
 | .cons ..,t,_,_,_,h,_=>by cases t <;> simp only[AS.iK,aw]at h
 | .nil,t,_,_,_,h,_=>by cases t <;> simp only[AS.iK,aw]at h
 | .vec ..,t,_,_,_,h,_=>by cases t <;> simp only[AS.iK,aw]at h
 | .bx ..,t,_,_,_,h,_ | .cO ..,t,_,_,_,h,_ | .mp ..,t,_,_,_,h,_ | .qo ..,t,_,_,_,h,_=>by cases t <;> simp only[AS.iK,aw]at h
theorem A7{s:AS}{t:Ty}{v:aD}{x:t.den}(h:(s.iK t v).eval=ao x):v.eQ=aT:=by
 cases v <;> first
  |rfl
  | (cases t <;> simp only[AS.iK,aw]at h)
theorem WH{s:AS}{t:Ty}{v:aD}{x:t.den}(h:(s.iK t v).eval=ao x):v.agg=t.agg:=by
 cases v with
 |d t' x'=>
  have h':(Out.opt (E9 t' t x')).eval=ao x:=by cases t <;> simpa only[AS.iK]using h
  exact YI (jd.1 h')
 |_=>cases t <;> first | rfl | (simp only[AS.iK,aw]at h)
theorem z8{C:Ctx}{g:Nat->lY}{β:Id->Option Pl}{s:AS}{a:Act}{w:bW}(h:Inv C g β s a w){v:aD}{y:Value}(hv:VS (s.env w g β) v y){t:Ty}{x:t.den}(ht:(s.iK t v).eval=ao x):
  ∃g',Inv C g' β (s.bt v.shared) a w/\cU (s.env w g β) ((s.bt v.shared).env w g' β)/\Trans w w g g'/\
   ∃cs,cI ((s.bt v.shared).env w g' β) t cs x/\fR t.agg cs y:=by
 obtain⟨g',h1,h2,h3,h4⟩:=fb v.shared h;obtain⟨cs,hV,hO⟩:=hv.eQ (A7 ht);exact⟨g',h1,h2,h3,cs,tV rfl h.bN h2 v t x cs hV ht h4,by rw[<-WH ht];exact hO⟩
theorem Tv{α:Type}{R:List Value->α->Prop}{f:α->List Value->Option (List Value)}(hf:∀x cs r,f x cs=ao r->∃c,cs=c++r/\R c x):
  ∀(l:List α) (cs r:List Value),aup f l cs=ao r->∃c,cs=c++r/\bq R c l
 |[],cs,r,h=>by simp only[aup,az]at h;exact⟨[],by simp[h],rfl⟩
 |x::xs,cs,r,h=>by
  simp only[aup]at h;cases hx:f x cs with
  |none=>rw[hx]at h;cases h
  |some r1=>
   rw[hx]at h;obtain⟨c1,e1,h1⟩:=hf x cs r1 hx;obtain⟨c2,e2,h2⟩:=Tv hf xs r1 r h;exact⟨c1++c2,by rw[e1,e2,aO],c1,c2,rfl,h1,h2⟩
theorem Dm(E:Env):∀(t:Ty) (x:t.den) (cs r:List Value),uo t x cs=ao r->∃c,cs=c++r/\cI E t c x
 | .int k,x,cs,r,h=>by
  cases cs with
  |nil=>simp[uo]at h
  |cons v r'=>
   cases v <;> simp only[uo]at h <;> try (cases h;done)
   rename_i k' n;split at h
   ·rename_i h1 h2;simp at h1 h2 h;subst h1 h2 h;exact⟨[.int k n],rfl,by simp[cI]⟩
   ·cases h
 | .bool,x,cs,r,h=>by
  cases cs with
  |nil=>simp[uo]at h
  |cons v r'=>
   cases v <;> simp only[uo]at h <;> try (cases h;done)
   rename_i b;split at h
   ·rename_i h1;simp at h1 h;subst h1 h;exact⟨[.bool b],rfl,by simp[cI]⟩
   ·cases h
 | .str,x,cs,r,h=>by
  cases cs with
  |nil=>simp[uo]at h
  |cons v r'=>
   cases v <;> simp only[uo]at h <;> try (cases h;done)
   rename_i b;split at h
   ·rename_i h1;simp at h1 h;subst h1 h;exact⟨[.string b],rfl,by simp[cI]⟩
   ·cases h
 | .slice t,x,cs,r,h=>by
  cases x with
  |cons _ _=>simp[uo]at h
  |nil=>
   cases cs with
   |nil=>simp[uo]at h
   |cons v r'=>
    unfold uo at h;split at h <;> try (cases h;done)
    all_goals simp_all
    exact⟨[.slice aJ 0 0],rfl,by simp only[cI];exact⟨aJ,0,[],rfl,by simp,by simp,λi v hh=>by simp at hh,rfl⟩⟩
 | .fS t,x,cs,r,h=>by
  cases x with
  |some _=>simp[uo]at h
  |none=>
   cases cs with
   |nil=>simp[uo]at h
   |cons v r'=>
    unfold uo at h;split at h <;> try (cases h;done)
    all_goals simp_all
    exact⟨[.slice aJ 0 0],rfl,by simp[cI]⟩
 | .od t,x,cs,r,h=>by
  cases x with
  |some _=>simp[uo]at h
  |none=>
   cases cs with
   |nil=>simp[uo]at h
   |cons v r'=>
    unfold uo at h;split at h <;> try (cases h;done)
    all_goals simp_all
    exact⟨[.pointer aJ],rfl,by simp[cI]⟩
 | .gN t,x,cs,r,h=>by
  cases x with
  |some _=>simp[uo]at h
  |none=>
   cases cs with
   |nil=>simp[uo]at h
   |cons v r'=>
    unfold uo at h;split at h <;> try (cases h;done)
    all_goals simp_all
    exact⟨[.pointer aJ],rfl,by simp[cI]⟩
 | .unit,x,cs,r,h=>by simp only[uo,az]at h;exact⟨[],by simp[h],by simp[cI]⟩
 | .pair a b,x,cs,r,h=>by
  simp only[uo]at h;cases hx:uo a x.1 cs with
  |none=>rw[hx]at h;cases h
  |some r1=>
   rw[hx]at h;obtain⟨c1,e1,h1⟩:=Dm E a x.1 cs r1 hx;obtain⟨c2,e2,h2⟩:=Dm E b x.2 r1 r h;exact⟨c1++c2,by rw[e1,e2,aO],by simp only[cI];exact⟨c1,c2,rfl,h1,h2⟩⟩
 | .arr n t,x,cs,r,h=>by
  simp only[uo]at h;split at h
  ·rename_i h1;obtain⟨c,e,hc⟩:=Tv (λx cs r hh=>Dm E t x cs r hh) _ _ _ h;exact⟨c,e,by simp only[cI];exact⟨by simpa using h1,hc⟩⟩
  ·cases h
theorem ai3(E:Env):∀(a:aD) (cs r:List Value),Rr a cs=ao r->∃c,cs=c++r/\V E a c:=by
 intro a
 induction a with
 |d t x=>
  intro cs r h;simp only[Rr]at h;obtain⟨c,e,hc⟩:=Dm E t x cs r h;exact⟨c,e,by simpa only[V]using hc⟩
 |pr a b iha ihb=>
  intro cs r h;simp only[Rr]at h;cases hx:Rr a cs with
  |none=>rw[hx]at h;cases h
  |some r1=>
   rw[hx]at h;obtain⟨c1,e1,h1⟩:=iha cs r1 hx;obtain⟨c2,e2,h2⟩:=ihb r1 r h;exact⟨c1++c2,by rw[e1,e2,aO],by simp only[V];exact⟨c1,c2,rfl,h1,h2⟩⟩
 |dH=>intro cs r h;unfold Rr at h;split at h <;> simp_all <;> exact⟨[.slice aJ 0 0],rfl,by simp[V]⟩
 |kh=>intro cs r h;unfold Rr at h;split at h <;> simp_all <;> exact⟨[.pointer aJ],rfl,by simp[V]⟩
 |vY=>intro cs r h;unfold Rr at h;split at h <;> simp_all <;> exact⟨[.nilFunc],rfl,by simp[V]⟩
 |By=>intro cs r h;unfold Rr at h;split at h <;> simp_all <;> exact⟨[.map aJ],rfl,by simp[V]⟩
 |_=>intro cs r h;simp[Rr]at h
theorem uO{P:aM}{T:TypeId}{z:aD}(h:adt P T z=aT)(E:Env):
  ∃i zv,P.info? T=ao i/\i.zero=ao zv/\V E z zv.cells.toList/\fR z.agg zv.cells.toList zv:=by
 unfold adt at h;split at h <;> try (cases h;done)
 rename_i i hi;split at h <;> try (cases h;done)
 rename_i zv hz;simp only[av,dB]at h;obtain⟨h1,h2⟩:=h;split at h1 <;> try (cases h1;done)
 rename_i he;obtain⟨c,e,hV⟩:=ai3 E z _ _ he;rw[bP]at e;rw[<-e]at hV;refine⟨i,zv,hi,hz,hV,?_⟩;cases afn:z.agg with
 |true=>
  rw[afn]at h2;cases zv <;> simp[rJ]at h2;simp[fR,Value.cells]
 |false=>
  rw[afn]at h2;cases zv <;> first | (simp[rJ]at h2;done) | simp[fR,Value.cells]
end Go.Ab
namespace Go.Ab
def Fr(r:Option Nat):Fence:= {Fence.wide with round:=r}
def fL(P:aM)(o:Oper)(a:Act)(w:bW)(K:Act->bW->Prop):Prop:=(∃x w',(execOp a.eval o).run P w= .ok (.value x) w'/\K (a.put o.dst x) w')\/(∃w',(execOp a.eval o).run P w= .ok .skip w'/\K (a.put o.dst undef) w')\/(∃f args w',(execOp a.eval o).run P w= .ok (.enter f args) w'/\Calls P f args w' λe w''=>∃x,e= .returned x/\K (a.put o.dst x) w'')\/(∃l f tmps as b w',(execOp a.eval o).run P w= .ok (.round l f tmps as b) w'/\∀r n,RoundIn (Fr r) n P l f tmps as b w' λe w''=>∃x,e= .returned x/\K (a.put o.dst x) w'')
theorem fL.plain{P:aM}{o:Oper}{a:Act}{w:bW}{K:Act->bW->Prop}(h:fL P o a w K)(c:Call):o.op≠ .defer c:=λho=>by
 have hd:∀x w',(execOp a.eval o).run P w= .ok x w'->∃d,x= .defer d:=λx w' hx=>by
  simp only[execOp,ho,cg]at hx;cases hr:(resolve a.eval c o.type).run P w with
  |ok d w1=>
   rw[hr]at hx;simp only[bH,dY,Result.ok.injEq]at hx;exact⟨d,hx.1.symm⟩
  |halt _ _=>rw[hr]at hx;simp[Result.andThen]at hx
 rcases h with⟨x,w',hr,_⟩ | ⟨w',hr,_⟩ | ⟨f,args,w',hr,_⟩ | ⟨l,f,tmps,as,b,w',hr,_⟩
 ·obtain⟨d,e⟩:=hd _ _ hr;cases e
 ·obtain⟨d,e⟩:=hd _ _ hr;cases e
 ·obtain⟨d,e⟩:=hd _ _ hr;cases e
 ·obtain⟨d,e⟩:=hd _ _ hr;cases e
theorem fL.wpIn{r:Option Nat}{n:Nat}{P:aM}{o:Oper}{a:Act}{w:bW}{K:Act->bW->Prop}{Q:Exit->Act->bW->Prop}(h:fL P o a w K):o.wpIn (Fr r) n P a w K Q:=by
 have hp:=h.plain;refine⟨λ_ _=>trivial,?_⟩;rw[Oper.semAt_eq _ _ _ hp];rcases h with⟨x,w',hr,hk⟩ | ⟨w',hr,hk⟩ | ⟨f,args,w',hr,hk⟩ | ⟨l,f,tmps,as,b,w',hr,hk⟩;rotate_left 3
 ·rw[hr,Oper.uponIn_round];refine⟨λh=>(by cases h),(hk r (n - 1)).mono λe w'' ⟨x,he,hx⟩=> ?_⟩;subst he;exact hx
 ·rw[hr,Oper.uponIn_value];exact hk
 ·rw[hr,Oper.uponIn_skip];exact hk
 ·rw[hr,Oper.uponIn_enter];refine⟨λh=>(by cases h),?_⟩;have h1:CallsIn (Fr r) (n - 1) P f args w' _:=callsIn_wide.2 hk;refine h1.mono λe w'' ⟨x,he,hx⟩=> ?_
  subst he;exact hx
theorem fL.mono{P:aM}{o:Oper}{a:Act}{w:bW}{K K':Act->bW->Prop}(h:fL P o a w K)(hk:∀a w,K a w->K' a w):fL P o a w K':=by
 rcases h with⟨x,w',hr,h⟩ | ⟨w',hr,h⟩ | ⟨f,args,w',hr,h⟩ | ⟨l,f,tmps,as,b,w',hr,h⟩
 ·exact .inl ⟨x,w',hr,hk _ _ h⟩
 ·exact .inr (.inl ⟨w',hr,hk _ _ h⟩)
 ·exact .inr (.inr (.inl ⟨f,args,w',hr,h.mono λe w'' ⟨x,he,hx⟩=>⟨x,he,hk _ _ hx⟩⟩))
 ·exact .inr (.inr (.inr ⟨l,f,tmps,as,b,w',hr,λr n=>(h r n).mono λe w'' ⟨x,he,hx⟩=>⟨x,he,hk _ _ hx⟩⟩))
section
variable {P:aM} {C:Ctx} {g:Nat->lY} {β:Id->Option Pl} {s:AS} {a:Act} {w:bW} {o:Oper}
theorem Inv.value(h:Inv C g β s a w){v:aD}{x:Value}(hv:VS (s.env w g β) v x)(hr:(execOp a.eval o).run P w= .ok (.value x) w):fL P o a w (gT C (s.put o.dst v)):= .inl ⟨x,w,hr,g,β,h.put o.dst hv⟩
theorem eu{f:Sem Value}{x:Value}{w':bW}(he:execOp a.eval o=(do pure (.value (<-f))))(hf:f.run P w= .ok x w'):(execOp a.eval o).run P w= .ok (.value x) w':=by rw[he,cg,hf];rfl
theorem YV{f:Sem Unit}{w':bW}(he:execOp a.eval o=(do f;pure .skip))(hf:f.run P w= .ok () w'):(execOp a.eval o).run P w= .ok .skip w':=by rw[he,cg,hf];rfl
theorem uq{E:Env}{k:kR}{n:Int}{y:Value}(h:VS E (.d (.int k) n) y):y= .int k n:=by obtain⟨cs,hv,ho⟩:=h;simp only[V,cI]at hv;have ho':cs=[y]:=ho;rw[hv]at ho';simpa using ho'.symm
theorem RW{E:Env}{b:Bool}{y:Value}(h:VS E (.d .bool b) y):y= .bool b:=by obtain⟨cs,hv,ho⟩:=h;simp only[V,cI]at hv;have ho':cs=[y]:=ho;rw[hv]at ho';simpa using ho'.symm
theorem Gr{E:Env}{b:ByteArray}{y:Value}(h:VS E (.d .str b) y):y= .string b:=by obtain⟨cs,hv,ho⟩:=h;simp only[V,cI]at hv;have ho':cs=[y]:=ho;rw[hv]at ho';simpa using ho'.symm
theorem lH{E:Env}(k:kR)(n:Int):VS E (.d (.int k) n) (.int k n):=⟨[.int k n],by simp[V,cI],rfl⟩
theorem uQ{E:Env}(b:Bool):VS E (.d .bool b) (.bool b):=⟨[.bool b],by simp[V,cI],rfl⟩
theorem aal{E:Env}(b:ByteArray):VS E (.d .str b) (.string b):=⟨[.string b],by simp[V,cI],rfl⟩
theorem amB{T:TypeId}{d:TypeDesc}(h:P.underlying T=ao d):∃i,P.info? T=ao i:=by
 unfold Program.underlying at h;split at h
 ·rename_i h';exact⟨_,h'⟩
 ·rename_i i _ h';exact⟨_,h'⟩
 ·cases h
theorem run_sizeOf{T:TypeId}{i:TypeInfo}(h:P.info? T=ao i)(w:bW):(sizeOf T).run P w= .ok i.size w:=by simp[sizeOf,typeInfo,h]
theorem mW{T:TypeId}{i:TypeInfo}(h:P.info? T=ao i):P.cellsOf T=i.size:=by simp[Program.cellsOf,h]
theorem rH{T:TypeId}{v:aD}(h:fits P T v=aT):v.eQ=aT/\∃i,P.info? T=ao i/\i.size=v.size/\∀w,(isAgg T).run P w= .ok v.agg w:=by
 unfold fits at h;simp only[av,dB]at h;obtain⟨⟨h1,h2⟩,h3⟩:=h;cases hu:P.underlying T with
 |none=>rw[hu]at h3;cases h3
 |some d=>
  obtain⟨i,hi⟩:=amB hu;refine⟨h1,i,hi,by rw[mW hi]at h2;exact h2,λw=> ?_⟩;rw[hu]at h3;unfold isAgg;rw[cg,run_underlying hu w];cases d <;> simp at h3 <;> simp[h3]
theorem tO{T:TypeId}{v:aD}(hf:fits P T v=aT){b off:Nat}{cs:List Value}(hl:cs.length=v.size)(hc:∀j x,cs[j]? =ao x->w.cell? ⟨b,off+j,aJ⟩=ao x):
  ∃y,(loadVar T ⟨b,off,aJ⟩).run P w= .ok y w/\fR v.agg cs y:=by
 obtain⟨_,i,hi,hs,afn⟩:=rH hf;unfold loadVar;rw[cg,afn w];simp only[bH];have Cm:∀j x,cs[j]? =ao x->w.cell? ((⟨b,off,aJ⟩:Addr).add j)=ao x:=λj x hj=>by rw[fv];exact hc j x hj
 cases ha:v.agg with
 |true=>
  refine⟨.agg cs.toArray,?_,rfl⟩;simp only[cY,cg,run_sizeOf hi,bH,hs,<-hl,run_loadCells_list w _ cs Cm];rfl
 |false=>
  have h1:v.size=1:=aD.ahm ha;obtain⟨y,rfl⟩:∃y,cs=[y]:=by
   match cs,hl with
   |[y],_=>exact⟨y,rfl⟩
   |[],hh=>simp[h1]at hh
   |_::_::_,hh=>simp[h1]at hh
  refine⟨y,?_,rfl⟩;have:=hc 0 y rfl;rw[cX]at this;simp[this]
theorem Es{T:TypeId}{v:aD}{E:Env}(hf:fits P T v=aT){cs:List Value}{y:Value}(hV:V E v cs)(ho:fR v.agg cs y){b off:Nat}{cur:Array Value}{e:TypeId}
  (hh:w.heap[b]? =ao (.cells cur e (0,0))) (hle:off+cs.length<=cur.size):
  (storeVar T ⟨b,off,aJ⟩ y).run P w= .ok () (w.setRow b (dD cur.toList off cs).toArray):=by
 obtain⟨_,i,hi,hs,_⟩:=rH hf;have apx:y.cells=cs.toArray:=ho.cells hV.one;have hl:=hV.size;have nQ:=run_storeCells_at P b off e cs 0 cur w hh (by simpa using hle) hV.one;simp only[cX]at nQ;unfold storeVar;simp only[apx,cg,run_sizeOf hi,bH,gW,hl,hs,ne_eq,not_true_eq_false,cF];simpa[dD]using nQ
theorem qv(w:bW)(ob:Obj){b:Nat}(h:b < w.heap.size):(w.alloc ob).heap[b]? =w.heap[b]? :=by
 show(w.heap.push ob)[b]? =w.heap[b]?
 rw[Array.getElem?_push,if_neg (Nat.ne_of_lt h)]
theorem sW(w:bW)(ob:Obj):(w.alloc ob).heap[w.heap.size]? =ao ob:=by
 show(w.heap.push ob)[w.heap.size]? =ao ob
 simp
theorem Trans.alloc(w:bW)(g:Nat->lY)(ob:Obj)(l:lY):Trans w (w.alloc ob) g (nu g w.heap.size l):=by
 refine⟨rfl,rfl,⟨rfl,aF _⟩,by simp,λb hb=> ?_⟩;rw[fC _ _ _ au,qv w ob hb];cases g b with
 |free=>exact⟨rfl,rfl⟩
 |own o k=>cases o with
  |eL=>exact⟨rfl,rfl⟩
  |id i=>exact⟨.inr ⟨i,k,rfl,aF _⟩,λoff v _ hv=>by rw[World.cell?_alloc_lt w ob _ hb];exact hv⟩
theorem Trans.drew(w:bW)(g:Nat->lY):Trans w w.drew g g:=Trans.refl w g |> λh=>⟨h.os,h.tape,⟨h.output.1,Nat.le_succ _⟩,h.size,h.xo⟩
theorem iN.same{w':bW}{g':Nat->lY}(h:iN (s.env w g β))(he:cU (s.env w g β) (s.env w' g' β))(hb:∀i ver fr c pl,s.bU i=ao (.obj ver fr c)->β i=ao pl->w'.heap[pl.b]? =w.heap[pl.b]? /\g' pl.b=g pl.b):iN (s.env w' g' β):=λi ver fr c hi=>(h i ver fr c hi).mono he rfl (λpl hp=>hb i ver fr c pl hi hp) λq vq k v l hq _=>⟨⟨k,v,l,hq⟩,λpl hp=>hb q vq aT _ pl hq hp⟩
theorem cU.same{w':bW}{g':Nat->lY}(ht:Trans w w' g g'):cU (s.env w g β) (s.env w' g' β):=⟨Trans.mem ht,λ_ _ h=>h,λ_ _ _ h=>⟨h,rfl⟩⟩
theorem Inv.GX(h:Inv C g β s a w)(ob:Obj):Inv C (nu g w.heap.size .free) β s a (w.alloc ob):=by have ht:=Trans.alloc w g ob .free;have he:cU (s.env w g β) (s.env (w.alloc ob) (nu g w.heap.size .free) β):=cU.same ht;refine h.step rfl ht he (iN.same h.bN he λi ver fr c pl hi hp=> ?_);have hl:=((h.bN i ver fr c hi).label (pl:=pl) hp).1;have hl':pl.b < w.heap.size:=hl;exact⟨qv w ob hl',fC _ _ _ au⟩
theorem Inv.drew(h:Inv C g β s a w):Inv C g β s a w.drew:=by have ht:=Trans.drew w g;have he:cU (s.env w g β) (s.env w.drew g β):=cU.same ht;exact h.step rfl ht he (iN.same h.bN he λ_ _ _ _ _ _ _=>⟨rfl,rfl⟩)
theorem kq{q:Nat}(h:s.ez q=aT):(∀j,s.bU (.new q j)=aJ)/\q < s.news.length:=by
 unfold AS.ez at h;split at h
 ·rename_i hn;refine⟨λj=> ?_,(dN.1 hn).1⟩;simp[AS.bU,aI,hn]
 ·cases h
theorem xL{q:Nat}(hq:q < s.news.length)(es:List dU)(j:Nat):(s.born q es).bU (.new q j)=es[j]? :=by simp[AS.bU,AS.born,aI,hq]
theorem jc{q:Nat}(es:List dU){id:Id}(h:∀j,id≠ .new q j):(s.born q es).bU id=s.bU id:=by
 cases id with
 |bF k=>rfl
 |new i j=>
  have:i≠q:=λe=>h j (by rw[e])
  simp only[AS.bU,AS.born,aI];rw[eF (Ne.symm this)]
def GW(β:Id->Option Pl)(id:Id)(p:Option Pl):Id->Option Pl:=λi=>if i=id then p else β i
@[simp] theorem j7(β:Id->Option Pl)(id:Id)(p:Option Pl):GW β id p id=p:=by simp[GW]
theorem Ag(β:Id->Option Pl)(id:Id)(p:Option Pl){i:Id}(h:i≠id):GW β id p i=β i:=by simp[GW,h]
theorem Inv.NV(h:Inv C g β s a w){q:Nat}(hq:s.ez q=aT){w':bW}{g':Nat->lY}{c:aD}{p:Option Pl}(ht:Trans w w' g g')
  (hb:∀b,b < w.heap.size->w'.heap[b]? =w.heap[b]? /\g' b=g b)
  (ho:cU (s.env w g β) ((s.born q [.obj 0 aR c]).env w' g' (GW β (.new q 0) p))->vK ((s.born q [.obj 0 aR c]).env w' g' (GW β (.new q 0) p)) (.new q 0) aR c):
  Inv C g' (GW β (.new q 0) p) (s.born q [.obj 0 aR c]) a w'/\cU (s.env w g β) ((s.born q [.obj 0 aR c]).env w' g' (GW β (.new q 0) p)):=by
 obtain⟨hv,hl⟩:=kq hq;have gj:∀id,s.bU id≠aJ->∀j,id≠ .new q j:=λid de j e=>de (by rw[e];exact hv j)
 have he:cU (s.env w g β) ((s.born q [.obj 0 aR c]).env w' g' (GW β (.new q 0) p)):=by
  refine⟨Trans.mem ht,λid ver afp=> ?_,λid ver afp hc=> ?_⟩
  ·have de:=gj id afp.1;have e:=jc (s:=s) [.obj 0 aR c] de;exact⟨by show(s.born q _).bU id≠aJ;rw[e];exact afp.1,λv fr c' hh=>afp.2 v fr c' (e.symm.trans hh)⟩
  ·have de:=gj id afp.1;have e:=jc (s:=s) [.obj 0 aR c] de;obtain⟨fr,c',hc⟩:=hc;exact⟨⟨fr,c',e.symm.trans hc⟩,Ag _ _ _ (de 0)⟩
 refine⟨h.step rfl ht he λid ver fr c' de=> ?_,he⟩;have hid':(s.born q [.obj 0 aR c]).bU id=ao (.obj ver fr c'):=de;by_cases hi:∃j,id= .new q j
 ·obtain⟨j,rfl⟩:=hi;rw[xL hl]at hid';cases j with
  |zero=>
   simp only[fQ,az,dU.obj.injEq]at hid';obtain⟨rfl,rfl,rfl⟩:=hid';exact ho he
  |succ j=>simp at hid'
 ·have hi':∀j,id≠ .new q j:=λj e=>hi ⟨j,e⟩
  rw[jc _ hi']at hid';refine(h.bN id ver fr c' hid').mono he (Ag _ _ _ (hi' 0)) (λpl hp=> ?_) λq2 vq k v l Oi _=> ?_
  ·exact hb pl.b ((h.bN id ver fr c' hid').label (pl:=pl) hp).1
  ·have aJb:s.bU q2=ao (.obj vq aT (.mp k v l)):=Oi;refine⟨⟨k,v,l,by show(s.born q _).bU q2=_;rw[jc _ (gj q2 (by rw[aJb];simp))];exact aJb⟩,λpl hp=>hb pl.b ((h.bN q2 vq aT _ aJb).label (pl:=pl) hp).1⟩
theorem pI{q:Nat}(hq:s.ez q=aT)(c:aD)(w':bW)(g':Nat->lY)(β':Id->Option Pl):((s.born q [.obj 0 aR c]).env w' g' β').Eg (.new q 0) 0:=by have e:=xL (s:=s) (kq hq).2 [.obj 0 aR c] 0;refine⟨by show(s.born q [.obj 0 aR c]).bU (.new q 0)≠aJ;rw[e];simp,λv fr c' _=>aN _⟩
theorem Inv.amR(h:Inv C g β s a w){q:Nat}(hq:s.ez q=aT){v:aD}{cs:List Value}{e:TypeId}(hk:∀pl n,v.E3 pl n e)(hN:∀n,v.vN n=n)(hv:V (s.env w g β) v.strip cs):
  ∃g' β',Inv C g' β' (s.born q [.obj 0 aR v]) a (w.alloc (.cells cs.toArray e))/\
   VS ((s.born q [.obj 0 aR v]).env (w.alloc (.cells cs.toArray e)) g' β') (.ptr (.new q 0) 0 [] 0) (.pointer (ao ⟨w.heap.size,0,aJ⟩)):=by
 have ht:=Trans.alloc w g (.cells cs.toArray e) (.own (.id (.new q 0)) 0);obtain⟨h1,h2⟩:=h.NV hq (c:=v) (p:=ao ⟨w.heap.size,0⟩) ht (λb hb=>⟨qv w _ hb,fC _ _ _ au⟩) (λhe=>
  NM.obj ⟨⟨w.heap.size,0⟩,cs.toArray,e,j7 _ _ _,sW w _,fH _ _ _,hk _ _,by rw[hN,show cs.toArray.toList.take cs.toArray.size=cs by simp];exact hv.mono he⟩)
 refine⟨_,_,h1,?_⟩;refine⟨[.pointer (ao ⟨w.heap.size,0,aJ⟩)],?_,rfl⟩;simp only[V];exact⟨_,rfl,pI hq _ _ _ _,λ_=>⟨_,j7 _ _ _,rfl⟩⟩
theorem Inv.aEz(h:Inv C g β s a w){q:Nat}(hq:s.ez q=aT){v:aD}{cs:List Value}(hv:V (s.env w g β) v cs)(e:TypeId):
  ∃g' β',Inv C g' β' (s.born q [.obj 0 aR v]) a (w.alloc (.cells cs.toArray e))/\
   VS ((s.born q [.obj 0 aR v]).env (w.alloc (.cells cs.toArray e)) g' β') (.ptr (.new q 0) 0 [] 0) (.pointer (ao ⟨w.heap.size,0,aJ⟩)):=
 h.amR hq (λpl n=>NY hv.zH pl n e) (λn=>SV hv.zH n) (by rw[Pd hv.zH];exact hv)
theorem atg(P:aM)(T:TypeId){z:aD}{E:Env}{cs:List Value}(hv:V E z cs):(∀pl n,(boxed P T z).E3 pl n T)/\(∀n,(boxed P T z).vN n=n)/\V E (boxed P T z).strip cs:=by
 unfold boxed;split
 ·exact⟨λ_ _=>rfl,λ_=>rfl,hv⟩
 ·exact⟨λpl n=>NY hv.zH pl n T,λn=>SV hv.zH n,by rw[Pd hv.zH];exact hv⟩
theorem Inv.aAM(h:Inv C g β s a w){t:Ty}{x:t.den}{cs:List Value}(hv:cI (s.env w g β) t cs x)(e:TypeId):
  ∃g',Inv C g' β s a (w.alloc (.cells cs.toArray e))/\cU (s.env w g β) (s.env (w.alloc (.cells cs.toArray e)) g' β)/\
   VS (s.env (w.alloc (.cells cs.toArray e)) g' β) (.eI t x) (.pointer (ao ⟨w.heap.size,0,aJ⟩)):=by
 have ht:=Trans.alloc w g (.cells cs.toArray e) .free;have he:cU (s.env w g β) (s.env (w.alloc (.cells cs.toArray e)) (nu g w.heap.size .free) β):=cU.same ht;refine⟨_,h.GX _,he,[.pointer (ao ⟨w.heap.size,0,aJ⟩)],?_,rfl⟩;simp only[V];refine⟨w.heap.size,0,cs,rfl,λi v hi=>⟨_,_,rfl,?_,?_⟩,hv.mono he.mem⟩
 ·show(w.alloc (.cells cs.toArray e)).cell? ⟨w.heap.size,0+i,aJ⟩=ao v;rw[World.cell?_alloc_new,bg];simpa using hi
 ·show sM (nu g w.heap.size .free) w.heap.size (0+i);unfold sM;rw[fH];trivial
theorem V7(T:TypeId)(y:Value)(w:bW):(newVar T y).run P w= .ok ⟨w.heap.size,0,aJ⟩ (w.alloc (.cells y.cells T)):=by simp[newVar,newRow]
theorem aie(h:Inv C g β s a w){T:TypeId}(ho:o.op= .alloc T){z:aD}{q:Nat}(hq:s.ez q=aT)(hz:adt P T z=aT):
  fL P o a w (gT C ((s.born q [.obj 0 aR (boxed P T z)]).put o.dst (.ptr (.new q 0) 0 [] 0))):=by
 obtain⟨i,zv,hi,ah5,hV,hO⟩:=uO hz (s.env w g β);obtain⟨hk,hN,hV⟩:=atg P T hV;obtain⟨g',β',h1,h2⟩:=h.amR hq hk hN hV;refine .inl ⟨.pointer (ao ⟨w.heap.size,0,aJ⟩),w.alloc (.cells zv.cells T),?_,g',β',?_⟩
 ·refine eu (f:=Instr.alloc T aT (.tuple #[])) (by simp only[execOp,ho]) ?_
  simp[Instr.alloc,zeroValue,typeInfo,hi,ah5,V7]
 ·have:=h1.put o.dst h2;simpa using this
theorem VS.aG2{E:Env}{t:Ty}{x:t.den}{y:Value}(h:VS E (.eI t x) y)(dt:Bool):VS E (aDj dt t x) y:=by
 cases dt with
 |false=>exact h
 |true=>
  obtain⟨cs,hv,ho⟩:=h;simp only[V]at hv;refine⟨cs,?_,ho⟩;simp only[aDj,V,cI];simpa using hv
theorem Y7{E:Env}{t:Ty}{y:Value}(h:VS E (.d (.od t) aJ) y):y= .pointer aJ:=by obtain⟨cs,hv,ho⟩:=h;simp only[V,cI]at hv;have ho':cs=[y]:=ho;have e:=hv.1 trivial;rw[e]at ho';simpa using ho'.symm
theorem LG{E:Env}{t:Ty}{x:t.den}{y:Value}(h:VS E (.d (.od t) (ao x)) y):VS E (.eI t x) y:=by obtain⟨cs,hv,ho⟩:=h;simp only[V,cI]at hv;refine⟨cs,?_,ho⟩;simp only[V];simpa using hv
theorem Zc{E:Env}{t:Ty}{y:Value}(h:VS E (.d (.gN t) aJ) y):y= .pointer aJ:=by obtain⟨cs,hv,ho⟩:=h;simp only[V,cI]at hv;have ho':cs=[y]:=ho;have e:=hv.1 trivial;rw[e]at ho';simpa using ho'.symm
theorem aAs{E:Env}{t:Ty}{x:Nat×t.den}{y:Value}(h:VS E (.d (.gN t) (ao x)) y):y= .pointer (ao ⟨x.1,0,aJ⟩)/\(∃ca T,E.g x.1= .free/\E.w.heap[x.1]? =ao (.cells ca T (0,0)))/\VS E (.eI t x.2) y:=by obtain⟨cs,hv,ho⟩:=h;simp only[V,cI]at hv;have ho':cs=[y]:=ho;obtain⟨ca,T,vs,e,h0,hr,hR⟩:=hv.2 x rfl;refine⟨by rw[e]at ho';simpa using ho'.symm,⟨ca,T,h0⟩,cs,?_,ho⟩;simp only[V];exact⟨_,_,vs,e,hr,hR⟩
theorem LW{E:Env}{t:Ty}{x:Nat×t.den}{y:Value}(h:VS E (.d (.gN t) (ao x)) y):VS E (.eI t x.2) y:=(aAs h).2.2
theorem atf(h:Inv C g β s a w){T:TypeId}{x:bK}{obj dt:Bool}(ho:o.op= .box T x){s':AS}(he:(aei P s obj dt o.dst T (s.ev x)).eval=ao s'):fL P o a w (gT C s'):=by
 unfold aei at he;cases hd:o.dst with
 |none=>rw[hd]at he;simp only[aw]at he
 |some q=>
  rw[hd]at he;have afq:=h.ev x;have pK:∀cs:List Value,(a.eval x).cells=cs.toArray->(execOp a.eval o).run P w= .ok (.value (.pointer (ao ⟨w.heap.size,0,aJ⟩))) (w.alloc (.cells cs.toArray T)):=by
   intro cs apx;refine eu (f:=Instr.box T (a.eval x)) (by simp only[execOp,ho]) ?_
   simp[Instr.box,V7,apx]
  cases obj with
  |true=>
   obtain⟨hg,iO⟩:=aG.1 he;obtain rfl:=ay.1 iO;simp only[av]at hg;obtain⟨hq,hf⟩:=hg;obtain⟨hc,_⟩:=rH hf;obtain⟨cs,hV,hO⟩:=afq.eQ hc;obtain⟨g',β',h1,h2⟩:=h.aEz hq hV T;refine .inl ⟨_,_,pK cs (hO.cells hV.one),g',β',?_⟩;rw[hd];exact h1.put (ao q) h2
  |false=>
   simp only at he;cases ht:ahP P depth T with
   |none=>rw[ht]at he;simp only[aw]at he
   |some t=>
    rw[ht]at he;obtain⟨_,he⟩:=aG.1 he;obtain⟨y,h1,h2⟩:=ax.1 he;obtain rfl:=ay.1 h2;obtain⟨g1,i1,e1,t1,cs,hR,hO⟩:=z8 h afq h1;obtain⟨g2,i2,e2,hv⟩:=i1.aAM hR T;refine .inl ⟨_,_,pK cs (hO.cells hR.one),g2,β,?_⟩;rw[hd];exact i2.put (ao q) (hv.aG2 dt)
theorem ni{E:Env}{t:Ty}{x:t.den}{y:Value}(h:VS E (.eI t x) y):∃b off vs,y= .pointer (ao ⟨b,off,aJ⟩)/\wW E (ao ⟨b,off,aJ⟩) vs/\cI E t vs x:=by obtain⟨cs,hv,ho⟩:=h;simp only[V]at hv;obtain⟨b,off,vs,e,hr,hx⟩:=hv;have ho':cs=[y]:=ho;rw[e]at ho';exact⟨b,off,vs,by simpa using ho'.symm,hr,hx⟩
theorem tM{E:Env}{id:Id}{ver n:Nat}{p:List Hw}{y:Value}(h:VS E (.ptr id ver p n) y):
  ∃a,y= .pointer (ao a)/\E.Eg id ver/\(E.cur id ver->∃pl,E.β id=ao pl/\a=⟨pl.b,n,aJ⟩):=by
 obtain⟨cs,hv,ho⟩:=h;simp only[V]at hv;obtain⟨a,e,hb,hc⟩:=hv;have ho':cs=[y]:=ho;rw[e]at ho';exact⟨a,by simpa using ho'.symm,hb,hc⟩
theorem qY{E:Env}{id:Id}{ver c i len:Nat}{p:List Hw}{y:Value}(h:VS E (.b8 id ver p c i len) y):
  ∃a cap,y= .slice a len cap/\len<=cap/\(0 < len->a.isSome=aT)/\E.Eg id ver/\
   (E.cur id ver->match E.β id with
    |some pl=>(0 < len\/i=0->a=ao ⟨pl.b,c,aJ⟩)/\(p=[]->i=0->cap=pl.cap)
    |none=>a=aJ/\len=0/\cap=0):=by
 obtain⟨cs,hv,ho⟩:=h;simp only[V]at hv;obtain⟨a,cap,e,rest⟩:=hv;have ho':cs=[y]:=ho;rw[e]at ho';exact⟨a,cap,by simpa using ho'.symm,rest⟩
theorem tQ{E:Env}{t:Ty}{l:List t.den}{y:Value}(h:VS E (.d (.slice t) l) y):
  ∃a cap vs,y= .slice a l.length cap/\l.length<=cap/\(0 < l.length->a.isSome=aT)/\wW E a vs/\bq (cI E t) vs l:=by
 obtain⟨cs,hv,ho⟩:=h;simp only[V,cI]at hv;obtain⟨a,cap,vs,e,rest⟩:=hv;have ho':cs=[y]:=ho;rw[e]at ho';exact⟨a,cap,vs,by simpa using ho'.symm,rest⟩
theorem lu{E:Env}{y:Value}(h:VS E .dH y):y= .slice aJ 0 0:=by obtain⟨cs,hv,ho⟩:=h;simp only[V]at hv;have ho':cs=[y]:=ho;rw[hv]at ho';simpa using ho'.symm
theorem aqo{E:Env}{id:Id}{fr:Bool}{c:aD}(h:vK E id fr c){p:List Hw}{n:Nat}{v:aD}(hl:(loc c.strip p).eval=ao (n,v))(hf:v.eQ=aT):
  ∃pl cur e,E.β id=ao pl/\E.w.heap[pl.b]? =ao (.cells cur e (0,0))/\V E v ((cur.toList.drop n).take v.size)/\n+v.size<=cur.size:=by
 by_cases hn:c.il=aR
 ·obtain⟨pl,cur,e,hp,hh,hg,hk,hV⟩:=h.box hn;have hN:=RX hk;generalize c.vN cur.size=N at hN hV;have hNl:(cur.toList.take N).length=N:=by rw[cT,cR];omega
  obtain⟨u,hu⟩:∃u,c.strip=u:=⟨_,rfl⟩;rw[hu]at hV hl;rcases sq p u (cur.toList.take N) n v (VO.of hV) hl with⟨rfl,rfl⟩ | ⟨h1,h2⟩
  ·have hs:=hV.size;rw[hNl]at hs;refine⟨pl,cur,e,hp,hh,?_,au⟩;rw[aQ,<-hs];exact hV
  ·rw[hNl]at h2;rw[sT,l5,gC au]at h1;exact⟨pl,cur,e,hp,hh,h1,au⟩
 ·cases c <;> first | (exact absurd rfl hn) | skip
  rotate_left
  ·have hl:(loc (.mp _ _ _) p).eval=_:=hl;obtain⟨_,rfl⟩:=abK hl;simp[aD.eQ]at hf
  ·have hl:(loc (.qo _ _ _ _ _ _) p).eval=_:=hl;obtain⟨_,rfl⟩:=Sc hl;simp[aD.eQ]at hf
  ·have hl:(loc (.yZ _ _ _) p).eval=_:=hl;obtain⟨_,rfl⟩:=Sd hl;simp[aD.eQ]at hf
  rename_i e t l;obtain⟨hz,h⟩:=h;cases hp:E.β id with
  |none=>
   rw[hp]at h;have:l=[]:=h;subst this;obtain⟨_,rfl⟩:=Uh hl;simp[aD.eQ]at hf
  |some pl=>
   rw[hp]at h;obtain⟨cur,k,q1,q2,q3,q4,q5,q6,q7,q8⟩:=h;have hlen:=bq.length (λc x hx=>cI.size hx) q8;have sj:l.length*t.size<=cur.size:=by rw[q2];exact c8 _ q3
   rcases sq (E:=E) p (.vec e t l) _ n v q8 hl with⟨rfl,rfl⟩ | ⟨h1,h2⟩
   ·simp[aD.eQ]at hf
   ·rw[hlen]at h2;rw[sT,l5,gC au]at h1;exact⟨pl,cur,e,rfl,q1,h1,au⟩
theorem aqm{E:Env}{v v':aD}(h:(aEB v).eval=ao v'):(∀cs,V E v cs->V E v' cs)/\v'.agg=v.agg:=by
 unfold aEB at h;split at h
 ·rename_i t l;obtain⟨h1,h2⟩:=bS.1 h;obtain rfl:=ay.1 h2;refine⟨λcs hv=> ?_,rfl⟩;simp only[V,cI]at hv ⊢;exact hv.1 (Option.isNone_iff_eq_none.1 h1)
 ·obtain rfl:=ay.1 h;exact⟨λ_ h=>h,rfl⟩
theorem Ug(h:Inv C g β s a w){T:TypeId}{x:aD}{y:Value}(hx:VS (s.env w g β) x y){v:aD}(he:(L8 P s T x).eval=ao v):
  ∃ad z,y= .pointer (ao ad)/\(loadVar T ad).run P w= .ok z w/\VS (s.env w g β) v z:=by
 unfold L8 at he;split at he
 ·rename_i id ver p n;cases kA:s.obj id with
  |none=>rw[kA]at he;simp only[aw]at he
  |some r=>
   obtain⟨v0,fr,c⟩:=r;rw[kA]at he;obtain⟨h1,h2⟩:=aG.1 he;obtain⟨⟨n',v'⟩,h3,h4⟩:=ax.1 h2;obtain⟨h5,h6⟩:=aG.1 h4;obtain⟨h7,h8⟩:=bS.1 h6;obtain⟨n1,n2⟩:=aqm (E:=s.env w g β) h8;simp only[aW]at h7;have aFA:v0=ver:=by simpa using h1
   subst aFA h7;have cP:=dZ kA;obtain⟨ad,rfl,hb,hc⟩:=tM hx;obtain⟨pl,hp,rfl⟩:=hc ⟨fr,c,cP⟩;obtain⟨ajl,_⟩:=rH h5;obtain⟨pl',cur,e,hp',hh,hV,hle⟩:=aqo (h.bN id v0 fr c cP) h3 ajl;rw[hp]at hp';obtain rfl:pl=pl':=by simpa using hp'
   obtain⟨z,NK,LQ⟩:=tO (P:=P) (w:=w) h5 (b:=pl.b) (off:=n') hV.size (λj x hj=>by
    rw[cell_of_row w pl.b (n'+j) cur e (0,0) hh];rw[c9]at hj;split at hj
    ·rw[fx]at hj;simpa using hj
    ·cases hj)
   exact⟨_,z,rfl,NK,VS.of (n1 _ hV) (by rw[n2];exact LQ)⟩
 ·rename_i t x';obtain⟨h1,h2⟩:=aG.1 he;obtain rfl:=ay.1 h2;obtain⟨b,off,vs,rfl,hr,hR⟩:=ni hx;obtain⟨z,NK,LQ⟩:=tO (P:=P) (w:=w) h1 (b:=b) (off:=off) hR.size (λj x hj=>by
   obtain⟨b',off',e,hh⟩:=hr j x hj;simp only[az,Addr.mk.injEq,eG]at e;obtain⟨rfl,rfl⟩:=e;exact hh.1)
  exact⟨_,z,rfl,NK,VS.of (by simpa only[V]using hR) LQ⟩
 ·rename_i t x';obtain⟨u,e,he⟩:=mf.1 he;subst e;have hx:=LG hx;obtain⟨h1,h2⟩:=aG.1 he;obtain rfl:=ay.1 h2;obtain⟨b,off,vs,rfl,hr,hR⟩:=ni hx;obtain⟨z,NK,LQ⟩:=tO (P:=P) (w:=w) h1 (b:=b) (off:=off) hR.size (λj x hj=>by
   obtain⟨b',off',e,hh⟩:=hr j x hj;simp only[az,Addr.mk.injEq,eG]at e;obtain⟨rfl,rfl⟩:=e;exact hh.1)
  exact⟨_,z,rfl,NK,VS.of (by simpa only[V]using hR) LQ⟩
 ·rename_i t x';obtain⟨u,e,he⟩:=mf.1 he;subst e;have hx:=LW hx;obtain⟨h1,h2⟩:=aG.1 he;obtain rfl:=ay.1 h2;obtain⟨b,off,vs,rfl,hr,hR⟩:=ni hx;obtain⟨z,NK,LQ⟩:=tO (P:=P) (w:=w) h1 (b:=b) (off:=off) hR.size (λj x hj=>by
   obtain⟨b',off',e,hh⟩:=hr j x hj;simp only[az,Addr.mk.injEq,eG]at e;obtain⟨rfl,rfl⟩:=e;exact hh.1)
  exact⟨_,z,rfl,NK,VS.of (by simpa only[V]using hR) LQ⟩
 ·simp only[aw]at he
theorem apX(h:Inv C g β s a w){T:TypeId}{x:bK}(ho:o.op= .load T x){v:aD}(he:(L8 P s T (s.ev x)).eval=ao v):fL P o a w (gT C (s.put o.dst v)):=by obtain⟨ad,z,hy,hr,hv⟩:=Ug h (h.ev x) he;refine h.value hv (eu (f:=Instr.loadAt T (a.eval x)) (by simp only[execOp,ho]) ?_);simp[Instr.loadAt,Instr.sureAddr,hy,hr]
theorem Trans.setRow(w:bW){b:Nat}{i:Id}(hg:g b= .own (.id i) 0)(cur:Array Value):Trans w (w.setRow b cur) g g:=by
 refine⟨by simp,by simp,by simp,by simp,λb' hb=> ?_⟩;by_cases he:b'=b
 ·subst he;rw[hg];exact⟨.inr ⟨i,0,rfl,aF _⟩,λ_ _ hh=>au⟩
 ·rw[setRow_other w b b' cur he];cases Rt:g b' with
  |free=>exact⟨rfl,rfl⟩
  |own o' k=>cases o' with
   |eL=>exact⟨rfl,rfl⟩
   |id i'=>exact⟨.inr ⟨i',k,rfl,aF _⟩,λoff v _ hv=>by rw[cell_setRow_other w b cur _ he];exact hv⟩
theorem Inv.apart(h:Inv C g β s a w){id:Id}{k:Nat}{b:Nat}(hg:g b= .own (.id id) k){i:Id}{ver:Nat}{fr:Bool}{c:aD}{pl:Pl}(hi:i≠id)(hs:s.bU i=ao (.obj ver fr c))(hp:β i=ao pl):pl.b≠b:=by
 intro hb;have hl:(∃k,g pl.b= .own (.id i) k)\/(fr=aT/\g pl.b= .free):=((h.bN i ver fr c hs).label (pl:=pl) hp).2;rw[hb,hg]at hl;rcases hl with⟨k',hk⟩ | ⟨_,hk⟩
 ·simp only[lY.own.injEq,Own.id.injEq]at hk;exact hi hk.1.symm
 ·cases hk
theorem ahu(h:Inv C g β s a w){T:TypeId}{x v:aD}{y z:Value}(hx:VS (s.env w g β) x y)(hz:VS (s.env w g β) v z){s':AS}(he:(Gq P s T x v).eval=ao s'):
  ∃ad w',y= .pointer (ao ad)/\(storeVar T ad z).run P w= .ok () w'/\∃g' β',Inv C g' β' s' a w':=by
 unfold Gq at he;split at he
 ·rename_i id ver p n;cases kA:s.obj id with
  |none=>rw[kA]at he;simp only[aw]at he
  |some r=>
   obtain⟨v0,fr,c⟩:=r;rw[kA]at he;obtain⟨h1,h2⟩:=aG.1 he;obtain⟨⟨n',o'⟩,h3,h4⟩:=ax.1 h2;obtain⟨h5,h6⟩:=aG.1 h4;obtain⟨h7,h8⟩:=bS.1 h6;obtain⟨c',h9,aF5⟩:=ax.1 h8;obtain rfl:=ay.1 aF5;simp only[aW]at h7;simp only[av,dB,cv]at h1;obtain⟨⟨aFA,aDW⟩,TP⟩:=h1;subst aFA h7 aDW;have cP:=dZ kA;obtain⟨ad,rfl,hb,hc⟩:=tM hx;obtain⟨pl,hp,rfl⟩:=hc ⟨aR,c,cP⟩;have hp:β id=ao pl:=hp;obtain⟨ajl,_⟩:=rH TP;obtain⟨cs,hV,hO⟩:=hz.eQ ajl;have hOb:=h.bN id v0 aR c cP;obtain⟨hcel',_⟩:=rH h5;have aAg:c.il=aR\/c.il=aT:=by cases c.il <;> simp
   rcases aAg with hn | hn
   ·obtain⟨pl',cur,e,hp',hh,hg,hk,hVc⟩:=hOb.box hn;have hp':β id=ao pl':=hp';rw[hp]at hp';obtain rfl:pl=pl':=by simpa using hp'
    have hg:g pl.b= .own (.id id) 0:=hg;have hh:w.heap[pl.b]? =ao (.cells cur e (0,0)):=hh
    have hN:=RX hk;have hNl:(cur.toList.take (c.vN cur.size)).length=c.vN cur.size:=by rw[cT,cR];omega
    obtain⟨u1,u2,u3⟩:=qg p c.strip (cur.toList.take (c.vN cur.size)) n' o' v c' cs (VO.of hVc) h3 hV h9;have u4:=u2.to (u3.tA hVc.tA);have sj:c'.size=c.strip.size:=by have e1:=u4.size;have e2:=hVc.size;rw[jS u1]at e1;omega
    rw[hNl]at u1;have ajr:(dD cur.toList n' cs).length=cur.toList.length:=jS (by have e1:cur.toList.length=cur.size:=cR;omega);have aJi:(dD cur.toList n' cs).take (c.vN cur.size)=dD (cur.toList.take (c.vN cur.size)) n' cs:=by
     conv=>lhs;rw[<-dR (c.vN cur.size) cur.toList]
     rw[A4 (by rw[hNl];exact u1),iZ (by rw[jS (by rw[hNl];exact u1),hNl];exact aF _)];exact bJ (by rw[jS (by rw[hNl];exact u1),hNl];exact aF _)
    have pK:=Es (P:=P) (w:=w) TP hV hO (b:=pl.b) (off:=n') hh (by have e1:cur.toList.length=cur.size:=cR;have e2:cs.toArray.size=cs.length:=gW;omega);have ht:=Trans.setRow w hg (dD cur.toList n' cs).toArray;have hle:cU (s.env w g β) ((s.aZ id (.obj v0 aR (c.wrap c'))).env (w.setRow pl.b (dD cur.toList n' cs).toArray) g β):=cU.aZ cP (aF _) ht (λ_ _=>rfl) (λ_=>rfl);refine⟨_,_,rfl,pK,g,β,h.step (dr _ _ _) ht hle (iN.aZ h.bN (by rw[cP];simp) hle (λ_ _=>rfl) (λi ver fr c pl2 hi TQ Rv=>⟨setRow_other w pl.b pl2.b _ (h.apart hg hi TQ Rv),rfl⟩) ?_ (pP cP λk v1 l e=>by rw[e]at hn;simp[aD.il]at hn))⟩;exact NM.obj ⟨pl,_,e,hp,setRow_heap w pl.b cur _ e (0,0) hh,hg,by rw[gW,ajr,cR];exact I3 hk u4.zH sj,by
     rw[Ke c u4.zH,gW,ajr,cR,NX u4.zH sj,show(dD cur.toList n' cs).toArray.toList=dD cur.toList n' cs from rfl,aJi];exact V.mono hle u4⟩
   ·cases c <;> first | (simp[aD.il]at hn;done) | skip
    rotate_left
    ·have h3:(loc (.mp _ _ _) p).eval=_:=h3;obtain⟨_,rfl⟩:=abK h3;simp[aD.eQ]at hcel'
    ·have h3:(loc (.qo _ _ _ _ _ _) p).eval=_:=h3;obtain⟨_,rfl⟩:=Sc h3;simp[aD.eQ]at hcel'
    ·have h3:(loc (.yZ _ _ _) p).eval=_:=h3;obtain⟨_,rfl⟩:=Sd h3;simp[aD.eQ]at hcel'
    rename_i e t l;obtain⟨ah6,hOb⟩:=hOb;have hOb:(match β id with
     |none=>l=[]
     |some pl=>∃cur k,w.heap[pl.b]? =ao (.cells cur e (0,0))/\cur.size=pl.cap*t.size/\l.length<=pl.cap/\pl.cap<=maxLen/\g pl.b= .own (.id id) k/\
       k<=l.length*t.size/\(aR=aR->k=0)/\bq (cI (s.env w g β) t) (cur.toList.take (l.length*t.size)) l):=hOb
    rw[hp]at hOb;obtain⟨cur,k,q1,q2,q3,q4,q5,q6,q7,q8⟩:=hOb;have hk:=q7 rfl;subst hk;have hlen:=bq.length (λc x hx=>cI.size hx) q8;have sj:l.length*t.size<=cur.size:=by rw[q2];exact c8 _ q3
    obtain⟨u1,u2,u3⟩:=qg (E:=s.env w g β) p (.vec e t l) _ n' o' v c' cs q8 h3 hV h9;rw[hlen]at u1;have pK:=Es (P:=P) (w:=w) TP hV hO (b:=pl.b) (off:=n') q1 au;cases c' <;> first | (exact u3.elim) | skip
    rename_i e' t' l';obtain⟨rfl,rfl,hl'⟩:=u3;have ht:=Trans.setRow w q5 (dD cur.toList n' cs).toArray;have hle:cU (s.env w g β) ((s.aZ id (.obj v0 aR (.vec e' t' l'))).env (w.setRow pl.b (dD cur.toList n' cs).toArray) g β):=cU.aZ cP (aF _) ht (λ_ _=>rfl) (λ_=>rfl);refine⟨_,_,rfl,pK,g,β,h.step (dr _ _ _) ht hle (iN.aZ h.bN (by rw[cP];simp) hle (λ_ _=>rfl) (λi ver fr c pl2 hi TQ Rv=>⟨setRow_other w pl.b pl2.b _ (h.apart q5 hi TQ Rv),rfl⟩) ?_ (pP cP λk v1 l e=>by cases e))⟩;refine⟨ah6,?_⟩;show(match β id with
     |none=>l'=[]
     |some pl=>_)
    rw[hp];have ajr:(dD cur.toList n' cs).length=cur.toList.length:=jS (by simp;omega);refine⟨_,0,setRow_heap w pl.b cur _ e' (0,0) q1,by rw[gW,ajr];simpa using q2,au,q4,q5,au,λ_=>rfl,?_⟩;have e2:(dD cur.toList n' cs).take (l'.length*t'.size)=dD (cur.toList.take (l.length*t'.size)) n' cs:=by
     rw[hl']
     conv=>lhs;rw[<-dR (l.length*t'.size) cur.toList]
     rw[A4 (by rw[hlen];exact u1),iZ (by rw[jS (by rw[hlen];exact u1),hlen];exact aF _)];exact bJ (by rw[jS (by rw[hlen];exact u1),hlen];exact aF _)
    rw[show(dD cur.toList n' cs).toArray.toList=dD cur.toList n' cs from rfl,e2];exact bq.mono (λ_ _ hx=>hx.mono hle.mem) u2
 ·simp only[aw]at he
theorem ale(h:Inv C g β s a w){T:TypeId}{x v:bK}(ho:o.op= .store T x v){s':AS}(he:(Gq P s T (s.ev x) (s.ev v)).eval=ao s'):fL P o a w (gT C (s'.put o.dst .undef)):=by obtain⟨ad,w',hy,hr,g',β',hi⟩:=ahu h (h.ev x) (h.ev v) he;refine .inr (.inl ⟨w',YV (f:=Instr.storeAt T (a.eval x) (a.eval v)) (by simp only[execOp,ho]) ?_,g',β',hi.put o.dst VS.undef⟩);simp[Instr.storeAt,Instr.sureAddr,hy,hr]
end
end Go.Ab
namespace Go.Ab
section
variable {P:aM} {C:Ctx} {g:Nat->lY} {β:Id->Option Pl} {s:AS} {a:Act} {w:bW} {o:Oper}
theorem Zk(h:Inv C g β s a w){x:bK}(ho:o.op= .move x\/o.op= .assign x):fL P o a w (gT C (s.put o.dst (s.ev x))):=by
 refine h.value (h.ev x) ?_
 rcases ho with ho | ho <;> simp[execOp,ho]
theorem aqL(h:Inv C g β s a w){c x y:bK}(ho:o.op= .pick c x y){v:aD}(he:(am9 (s.ev c) (s.ev x) (s.ev y)).eval=ao v):fL P o a w (gT C (s.put o.dst v)):=by
 have hc:=h.ev c;have hx:=h.ev x;have hy:=h.ev y;unfold am9 at he;split at he
 ·rename_i b hb;rw[hb]at hc;have aK8:=RW hc;have hr:(execOp a.eval o).run P w= .ok (.value (if b then a.eval x else a.eval y)) w:=by simp[execOp,ho,aK8,asBool]
  split at he
  ·rename_i bx by' aIF aK5;obtain rfl:=ay.1 he;rw[aIF]at hx;rw[aK5]at hy;refine h.value ?_ hr
   cases b
   ·simpa using hy
   ·simpa using hx
  ·cases b with
   |true=>
    simp only[Out.eval,az]at he;subst he;exact h.value (by simpa using hx) hr
   |false=>
    simp only[Out.eval,az]at he;subst he;exact h.value (by simpa using hy) hr
 ·simp only[aw]at he
theorem XB(h:Inv C g β s a w){x:bK}(ho:o.op= .nilCheck x){s':AS}(he:(match s.ev x with
  | .ptr id v p n=>Out.ok (s.put o.dst (.ptr id v p n))
  | .eI t y=> .ok (s.put o.dst (.eI t y))
  | .d (.od t) y=> .get (y:Option t.den) λy=> .ok (s.put o.dst (.eI t y))
  | .d (.gN t) y=> .get (y:Option (Nat×t.den)) λy=> .ok (s.put o.dst (.eI t y.2))
  | .fn f c=> .ok (s.put o.dst (.fn f c))
  |_=> .fail).eval=ao s'):fL P o a w (gT C s'):=by
 have hx:=h.ev x;split at he
 ·rename_i id v p n hv;obtain rfl:=ay.1 he;rw[hv]at hx;obtain⟨ad,hy,_⟩:=tM hx;exact h.value hx (by simp[execOp,ho,hy])
 ·rename_i t y hv;obtain rfl:=ay.1 he;rw[hv]at hx;obtain⟨b,off,vs,hy,_⟩:=ni hx;exact h.value hx (by simp[execOp,ho,hy])
 ·rename_i t y hv;obtain⟨z,e,he⟩:=mf.1 he;subst e;obtain rfl:=ay.1 he;rw[hv]at hx;have hx:=LG hx;obtain⟨b,off,vs,hy,_⟩:=ni hx;exact h.value hx (by simp[execOp,ho,hy])
 ·rename_i t y hv;obtain⟨z,e,he⟩:=mf.1 he;subst e;obtain rfl:=ay.1 he;rw[hv]at hx;have hx:=LW hx;obtain⟨b,off,vs,hy,_⟩:=ni hx;exact h.value hx (by simp[execOp,ho,hy])
 ·rename_i f c hv;obtain rfl:=ay.1 he;rw[hv]at hx;obtain⟨cs,hV,hO⟩:=hx.eQ rfl;simp only[V]at hV;obtain⟨vs,e,hc⟩:=hV;have hO':cs=[a.eval x]:=hO;rw[e]at hO';have hy:a.eval x= .func (.func f) #[] vs.toArray:=by simpa using hO'.symm
  refine h.value (v:= .fn f c) ⟨cs,by simp only[V];exact⟨vs,e,hc⟩,hO⟩ (by simp[execOp,ho,hy])
 ·simp only[aw]at he
theorem afJ{op:BinOp}{k k':kR}{x y:Int}{v:aD}(he:(avo op k x k' y).eval=ao v)(T:TypeId)(E:Env):
  ∃z,(binOp op T (.int k x) (.int k' y)).run P w= .ok z w/\VS E v z:=by
 unfold avo at he;have same:∀(hk:decide (k=k')=aT),k=k':=λhk=>by simpa using hk
 cases op with
 |shl=>
  obtain⟨h1,h2⟩:=bS.1 he;obtain rfl:=ay.1 h2;have h1:¬y < 0:=by simpa using h1
  exact⟨_,by simp[binOp,Op.shift,h1],lH _ _⟩
 |shr=>
  obtain⟨h1,h2⟩:=bS.1 he;obtain rfl:=ay.1 h2;have h1:¬y < 0:=by simpa using h1
  exact⟨_,by simp[binOp,Op.shift,h1],lH _ _⟩
 |quo=>
  obtain⟨h1,h2⟩:=aG.1 he;obtain rfl:=same h1;obtain⟨h3,h4⟩:=bS.1 h2;obtain rfl:=ay.1 h4;have h3:y≠0:=by simpa using h3
  exact⟨_,by simp[binOp,Op.intDiv,h3],lH _ _⟩
 |rem=>
  obtain⟨h1,h2⟩:=aG.1 he;obtain rfl:=same h1;obtain⟨h3,h4⟩:=bS.1 h2;obtain rfl:=ay.1 h4;have h3:y≠0:=by simpa using h3
  exact⟨_,by simp[binOp,Op.intDiv,h3],lH _ _⟩
 |add | sub | mul=>
  obtain⟨h1,h2⟩:=aG.1 he;obtain rfl:=same h1;obtain rfl:=ay.1 h2;exact⟨_,by simp[binOp,Op.intArith],lH _ _⟩
 |and | or | xor | andNot=>
  obtain⟨h1,h2⟩:=aG.1 he;obtain rfl:=same h1;obtain rfl:=ay.1 h2;refine⟨_,?_,lH _ _⟩;unfold binOp Op.intBits;simp[eh]
 |eql | neq | lss | leq | gtr | geq=>
  obtain⟨h1,h2⟩:=aG.1 he;obtain rfl:=same h1;obtain rfl:=ay.1 h2;refine⟨_,?_,uQ _⟩;simp[binOp,Op.intCmp]
theorem ahv{op:BinOp}{x y:ByteArray}{v:aD}(he:(ax5 op x y).eval=ao v)(T:TypeId)(E:Env):
  ∃z,(binOp op T (.string x) (.string y)).run P w= .ok z w/\VS E v z:=by
 unfold ax5 at he;cases op <;> simp only[aw]at he
 case add=>
  obtain⟨h1,h2⟩:=bS.1 he;obtain rfl:=ay.1 h2;have h1:¬((x.size+y.size:Nat):Int) > IntKind.i64.max:=by simpa using h1
  refine⟨.string (x++y),?_,aal _⟩;show(Op.stringOp .add x y).run P w=_;unfold Op.stringOp;simp only[h1,cF];rfl
 all_goals
  obtain rfl:=ay.1 he;exact⟨_,by simp[binOp,Op.stringOp],uQ _⟩
theorem nH{op:BinOp}{T:TypeId}{x y:bK}{u v:Value}(h1:u≠ .nilIface)(h2:rJ u=aR):(eqGuard op T x y u v).run P w= .ok () w:=by
 unfold eqGuard;cases op <;> simp
 all_goals (cases u <;> simp_all [rJ])
theorem xY{T:TypeId}{b:Bool}(h:JH P T b=aT):∃i,P.info? T=ao i/\∀w,(isAgg T).run P w= .ok b w:=by
 unfold JH at h;cases hu:P.underlying T with
 |none=>rw[hu]at h;cases h
 |some d=>
  obtain⟨i,hi⟩:=amB hu;refine⟨i,hi,λw=> ?_⟩;rw[hu]at h;unfold isAgg;rw[cg,run_underlying hu w];cases d <;> simp at h <;> simp[h]
theorem wk{T:TypeId}{b:Bool}(h:JH P T b=aT){cs:List Value}{off n:Nat}(hn:P.cellsOf T=n)(hb:b=aR->n=1)(hl:off+n<=cs.length):
  ∃y,(part T cs.toArray off).run P w= .ok y w/\fR b ((cs.drop off).take n) y:=by
 obtain⟨i,hi,afn⟩:=xY h;rw[mW hi]at hn;unfold part;rw[cg,afn w];simp only[bH];cases b with
 |true=>
  refine⟨.agg ((cs.drop off).take n).toArray,?_,rfl⟩;simp only[cY,cg,run_sizeOf hi,bH,hn,dY];simp[List.extract_eq_take_drop]
 |false=>
  have h1:=hb rfl;subst h1;have je:off < cs.length:=au;refine⟨cs[off],?_,?_⟩
  ·simp[je]
  ·show(cs.drop off).take 1=[cs[off]];rw[aC je,List.take_succ_cons,fg]
theorem wo{t:Ty}(h:t.agg=aR):t.size=1:=by cases t <;> first | rfl | (simp[Ty.agg]at h)
theorem Ud{α:Type}(f:α->α->Bool)(x y:α)(xs ys:List α):nb f (x::xs) (y::ys)=(f x y && nb f xs ys):=rfl
theorem T7{E:Env}(hE:E.w=w){T U:TypeId}(hT:P.underlying T=ao (.pointer U))(hU:aBm P U=aT){t:Ty}(hn:t.amS=aT){x y:(Ty.gN t).den}{cx cy:List Value}(hx:cI E (.gN t) cx x)(hy:cI E (.gN t) cy y){u v:Value}(hu:cx=[u])(hv:cy=[v]):
  (∃a,u= .pointer a)/\(∃b,v= .pointer b)/\∀d,(df (d+1) T u v).run P w= .ok ((Ty.gN t).beq x y) w:=by
 unfold aBm at hU;split at hU <;> try (cases hU;done)
 rename_i i hi;have sj:i.size≠0:=by simpa using hU
 subst hu hv;have yes:u=v->(Ty.gN t).beq x y=aT:=λe=>by subst e;exact @me _ ((Ty.gN t).asn x y) (cI.uniq (t:= .gN t) (by simpa only[Ty.amS]using hn) hx hy)
 have no:x≠y->(Ty.gN t).beq x y=aR:=λe=> @jq _ ((Ty.gN t).asn x y) e
 simp only[cI]at hx hy;cases apC:(x:Option (Nat×t.den)) with
 |none=>
  have e1:=hx.1 apC;simp only[cz,eG]at e1;subst e1;cases aAh:(y:Option (Nat×t.den)) with
  |none=>
   have e2:=hy.1 aAh;simp only[cz,eG]at e2;subst e2;exact⟨⟨_,rfl⟩,⟨_,rfl⟩,λd=>by rw[apC,aAh]at yes;rw[yes rfl];simp[df,run_underlying hT]⟩
  |some b=>
   obtain⟨cb,Tb,vb,e2,hb,_⟩:=hy.2 b aAh;simp only[cz,eG]at e2;subst e2;exact⟨⟨_,rfl⟩,⟨_,rfl⟩,λd=>by rw[apC,aAh]at no;rw[no (λe=>by cases e)];simp[df,run_underlying hT]⟩
 |some a=>
  obtain⟨ca,Ta,va,e1,ha,_⟩:=hx.2 a apC;simp only[cz,eG]at e1;subst e1;cases aAh:(y:Option (Nat×t.den)) with
  |none=>
   have e2:=hy.1 aAh;simp only[cz,eG]at e2;subst e2;exact⟨⟨_,rfl⟩,⟨_,rfl⟩,λd=>by rw[apC,aAh]at no;rw[no (λe=>by cases e)];simp[df,run_underlying hT]⟩
  |some b=>
   obtain⟨cb,Tb,vb,e2,hb,_⟩:=hy.2 b aAh;simp only[cz,eG]at e2;subst e2;refine⟨⟨_,rfl⟩,⟨_,rfl⟩,λd=> ?_⟩;rw[apC,aAh]at yes no;by_cases ady:a.1=b.1
   ·rw[yes (by rw[ady])];simp[df,run_underlying hT,run_sizeOf hi,sj,ady,run_sameAddr_same]
   ·rw[no (λe=>ady (bD Prod.fst (aP e)))];have hd:=run_sameAddr_other (P:=P) w (a:=⟨a.1,0,aJ⟩) (b:=⟨b.1,0,aJ⟩) (by intro e;exact ady (bD Addr.block e)) (hE▸ha.2) (hE▸hb.2);simp[df,run_underlying hT,run_sizeOf hi,sj,hd]
theorem uY(E:Env)(hE:E.w=w):∀(n:Nat) (T:TypeId) (t:Ty),sh P n T t=aT->∀(d:Nat),n<=d->∀(cx cy:List Value) (x y:t.den) (u v:Value),cI E t cx x->cI E t cy y->fR t.agg cx u->fR t.agg cy v->
  (df d T u v).run P w= .ok (t.beq x y) w
 | 0,T,t,h,_,_,_,_,_,_,_,_,_,_,_,_=>by simp[sh]at h
 |n+1,T,t,h,0,hd,_,_,_,_,_,_,_,_,_,_=>au
 |n+1,T,t,h,d+1,hd,cx,cy,x,y,u,v,hx,hy,hu,hv=>by
  simp only[sh]at h;split at h
  ·rename_i k k' hT;simp only[cI]at hx hy;have e1:cx=[u]:=hu;have e2:cy=[v]:=hv;rw[hx]at e1;rw[hy]at e2;simp only[cz,eG]at e1 e2;subst e1 e2;rw[run_equalIn_int w d T _ _ _ _ hT];rfl
  ·rename_i hT;simp only[cI]at hx hy;have e1:cx=[u]:=hu;have e2:cy=[v]:=hv;rw[hx]at e1;rw[hy]at e2;simp only[cz,eG]at e1 e2;subst e1 e2;rw[run_equalIn_bool' w d T _ _ hT];rfl
  ·rename_i hT;simp only[cI]at hx hy;have e1:cx=[u]:=hu;have e2:cy=[v]:=hv;rw[hx]at e1;rw[hy]at e2;simp only[cz,eG]at e1 e2;subst e1 e2;rw[run_equalIn_string w d T _ _ hT];rfl
  ·rename_i U t' hT;simp only[av]at h;exact(T7 hE hT h.1 h.2 hx hy hu hv).2.2 d
  ·rename_i m e m' t' hT;simp only[av,dB]at h;obtain⟨⟨⟨⟨rfl,aEh⟩,sj⟩,Kv⟩,uZ⟩:=h;simp only[cI]at hx hy;obtain⟨aIZ,aIK⟩:=hx;obtain⟨aLo,aK9⟩:=hy;have e1:u= .agg cx.toArray:=hu;have e2:v= .agg cy.toArray:=hv;subst e1 e2;obtain⟨i,hi,afn⟩:=xY Kv;have hsz':=sj;rw[mW hi]at hsz';simp only[df,cg,run_underlying hT,bH,run_sizeOf hi,hsz'];simp only[Std.Legacy.Range.forIn_eq_forIn_range'];have hm:([:m]:Std.Legacy.Range).size=m:=by simp[Std.Legacy.Range.size]
   rw[hm];have ah6:∀c z,cI E t' c z->c.length=t'.size:=λc z hz=>hz.size
   have bx:t'.agg=aR->t'.size=1:=wo
   have key:∀(k:Nat) (x y:List t'.den) (j:Nat),x.length=k->y.length=k->bq (cI E t') (cx.drop (j*t'.size)) x->bq (cI E t') (cy.drop (j*t'.size)) y->
     (forIn (List.range' j k) ((aJ,()):Option Bool×Unit) λi __s=>(do
      let __do_lift <-part e cx.toArray (i*t'.size)
      let __do_lift_1 <-part e cy.toArray (i*t'.size)
      let __do_lift <-df d e __do_lift __do_lift_1
      if(!__do_lift)=aT then pure (ForInStep.done (ao aR,())) else pure (ForInStep.yield (aJ,())):Sem (ForInStep (Option Bool×Unit)))).run P w= .ok (if nb t'.beq x y then aJ else ao aR,()) w:=by
    intro k
    induction k with
    |zero=>
     intro x y j hx hy _ _;rw[List.length_eq_zero_iff.1 hx,List.length_eq_zero_iff.1 hy];rfl
    |succ k ih=>
     intro x y j hx hy hcx' hcy';cases x with
     |nil=>simp at hx
     |cons x0 xs=>
      cases y with
      |nil=>simp at hy
      |cons y0 ys=>
       have gx:=bq.get ah6 hcx' 0 (by simp);have gy:=bq.get ah6 hcy' 0 (by simp);simp only[mN,aQ,List.getElem_cons_zero]at gx gy;have lenx:((cx.drop (j*t'.size)).take t'.size).length=t'.size:=gx.size;have leny:((cy.drop (j*t'.size)).take t'.size).length=t'.size:=gy.size;have NK:t'.size≠0:=by simpa using aEh
       have aIV:j*t'.size+t'.size<=cx.length:=by simp only[cT,dx]at lenx;omega
       have aLl:j*t'.size+t'.size<=cy.length:=by simp only[cT,dx]at leny;omega
       obtain⟨ux,h1,o1⟩:=wk (w:=w) Kv sj bx (cs:=cx) (off:=j*t'.size) aIV;obtain⟨uy,h2,o2⟩:=wk (w:=w) Kv sj bx (cs:=cy) (off:=j*t'.size) aLl;have h3:=uY E hE n e t' uZ d au _ _ x0 y0 ux uy gx gy o1 o2;have nx:bq (cI E t') (cx.drop ((j+1)*t'.size)) xs:=by have:=bq.drop ah6 1 hcx';rw[gq]at this;simpa[eM]using this
       have ny:bq (cI E t') (cy.drop ((j+1)*t'.size)) ys:=by have:=bq.drop ah6 1 hcy';rw[gq]at this;simpa[eM]using this
       have:=ih xs ys (j+1) (by simpa using hx) (by simpa using hy) nx ny;rw[List.range'_succ,List.forIn_cons];simp only[cg,h1,h2,h3,bH,Ud];rcases iS (t'.beq x0 y0) with hb | hb
       ·simp only[hb,cG,bR,cF,dY,bH,cD];exact this
       ·simp only[hb,eY,cY,dY,bH,ff,bR,cF]
   have:=key m x y 0 aIZ aLo (by simpa using aIK) (by simpa using aK9);rw[this];show _=Result.ok (nb t'.beq x y) w;cases nb t'.beq x y <;> rfl
  ·rename_i t0 _ _ fs hT;simp only[av,cv]at h;obtain⟨nQ,aDX⟩:=h;have hF:P.fieldsOf T=fs:=by simp[Program.fieldsOf,hT]
   have hT':P.underlying T=ao (.struct (P.fieldsOf T)):=by rw[hF];exact hT
   have key:∀(fl:List Field) (t:Ty) (off:Nat),Jq P (sh P n) fl t off=aT->∀(x y:t.den),cI E t (cx.drop off) x->cI E t (cy.drop off) y->
     (Op.eqFields d cx.toArray cy.toArray fl).run P w= .ok (t.beq x y) w:=by
    intro fl
    induction fl with
    |nil=>
     intro t off hc x y _ _;cases t <;> first | (simp[Jq]at hc;done) | rfl
    |cons f fl ih=>
     intro t off hc x y hx hy;cases t <;> first | (simp[Jq]at hc;done) | skip
     rename_i ta tb;simp only[Jq,av,cv,dB,gh]at hc;obtain⟨⟨⟨⟨⟨⟨aI4,az9⟩,hz⟩,sj⟩,Kv⟩,uZ⟩,au5⟩:=hc;simp only[cI]at hx hy;obtain⟨xa,xb,ex,aGY,aJs⟩:=hx;obtain⟨ya,yb,ey,aKI,aLI⟩:=hy;have bx:ta.agg=aR->ta.size=1:=wo;have lx:xa.length=ta.size:=aGY.size;have ly:ya.length=ta.size:=aKI.size;have split:∀(cs xa xb:List Value),cs.drop off=xa++xb->xa.length=ta.size->(cs.drop off).take ta.size=xa/\cs.drop (off+ta.size)=xb/\off+ta.size<=cs.length:=by intro cs xa xb e l;refine⟨by rw[e];exact kJ l,by rw[<-gq,e];exact kI l,?_⟩;have:=bD ag e;simp only[dx,ak]at this;omega
     obtain⟨sx1,sx2,sx3⟩:=split cx xa xb ex lx;obtain⟨sy1,sy2,sy3⟩:=split cy ya yb ey ly;obtain⟨ux,h1,o1⟩:=wk (w:=w) Kv sj bx (cs:=cx) (off:=off) sx3;obtain⟨uy,h2,o2⟩:=wk (w:=w) Kv sj bx (cs:=cy) (off:=off) sy3;rw[sx1]at o1;rw[sy1]at o2;have h3:=uY E hE n f.type ta uZ d au _ _ x.1 y.1 ux uy aGY aKI o1 o2;have h4:=ih tb (off+ta.size) au5 x.2 y.2 (by rw[sx2];exact aJs) (by rw[sy2];exact aLI);simp only[Op.eqFields,ne_eq,aI4,not_false_eq_true,cY,cg,az9,h1,h2,h3,bH];show _=Result.ok (ta.beq x.1 y.1 && tb.beq x.2 y.2) w;rcases iS (ta.beq x.1 y.1) with hb | hb
     ·simp only[hb,cG,bR,cF,cD];exact h4
     ·simp[hb]
   have Kv:t0.agg=aT:=by cases hl:fs.toList <;> rw[hl]at aDX <;> cases t0 <;> first | rfl | (simp[Jq]at aDX;done)
   rw[Kv]at hu hv;have e1:u= .agg cx.toArray:=hu;have e2:v= .agg cy.toArray:=hv;subst e1 e2;rw[run_equalIn_struct w d T _ _ hT' nQ,hF];exact key fs.toList t0 0 aDX x y (by simpa using hx) (by simpa using hy)
  ·cases h
end
end Go.Ab
namespace Go.Ab
section
variable {P:aM} {C:Ctx} {g:Nat->lY} {β:Id->Option Pl} {s:AS} {a:Act} {w:bW} {o:Oper}
theorem awj{E:Env}{v:aD}{y c:Value}(h:VS E v y)(hc:v.eQ=aT)(ha:v.agg=aR)(hV:∀cs,V E v cs->cs=[c]):y=c:=by have:=h.single hc ha;simpa using hV _ this
theorem AP{E:Env}{y:Value}(h:VS E .kh y):y= .pointer aJ:=awj h rfl rfl λcs hv=>by simpa only[V]using hv
theorem Sf{E:Env}{y:Value}(h:VS E .vY y):y= .nilFunc:=awj h rfl rfl λcs hv=>by simpa only[V]using hv
theorem TE{E:Env}{f:fK}{c:aD}{y:Value}(h:VS E (.fn f c) y):∃vs,y= .func (.func f) #[] vs.toArray/\VC E c vs:=by have h1:=h.single rfl rfl;simp only[V]at h1;obtain⟨vs,e,hc⟩:=h1;exact⟨vs,by simpa using e,hc⟩
theorem eH{T:TypeId}{u v:Value}{b:Bool}(h:∀d,(df (d+1) T u v).run P w= .ok b w):(Op.equal T u v).run P w= .ok b w:=h 9999
theorem Tz{T:TypeId}{x y:aD}{u v:Value}{E:Env}(hx:VS E x u)(hy:VS E y v){b:Bool}(he:(xM P T x y).eval=ao b)(hE:E.w=w):
  (Op.equal T u v).run P w= .ok b w/\u≠ .nilIface/\(rJ u=aR\/(rJ v=aT/\P.eqGuardType P.depth T=aR))/\
   (∀op,binOp op T u v=(match op with | .eql=>do pure (.bool (<-Op.equal T u v)) | .neq=>do pure (.bool (!(<-Op.equal T u v))) | _=>binOp op T u v)):=by
 unfold xM at he;split at he
 ·rename_i t x' t' y';obtain⟨y'',h1,h2⟩:=ax.1 he;obtain⟨e,h1⟩:=jb (jd.1 h1);obtain rfl:t'=t:=Ty.gN.inj e;simp only at h1;subst h1;obtain⟨h3,h4⟩:=aG.1 h2;obtain rfl:=ay.1 h4;simp only[av]at h3;obtain⟨h1,hn⟩:=h3;unfold aG4 at h1;split at h1 <;> try (cases h1;done)
  rename_i U hT;obtain⟨cx,hVx,hOx⟩:=hx.eQ rfl;obtain⟨cy,hVy,hOy⟩:=hy.eQ rfl;simp only[V]at hVx hVy;obtain⟨⟨_,rfl⟩,⟨_,rfl⟩,hr⟩:=T7 hE hT h1 hn hVx hVy hOx hOy;exact⟨eH hr,by simp,.inl rfl,λop=>by cases op <;> rfl⟩
 ·rename_i t x' t' y' _;obtain⟨y'',h1,h2⟩:=ax.1 he;obtain⟨rfl,h1⟩:=jb (jd.1 h1);simp only at h1;subst h1;obtain⟨h3,h4⟩:=aG.1 h2;obtain rfl:=ay.1 h4;simp only[av,ij,cv,aW]at h3;obtain⟨h3,h5⟩:=h3;obtain⟨cx,hVx,hOx⟩:=hx.eQ rfl;obtain⟨cy,hVy,hOy⟩:=hy.eQ rfl;simp only[V]at hVx hVy;have hr:=uY (w:=w) E hE depth T t' h5 10000 eZ cx cy x' y' u v hVx hVy hOx hOy;refine⟨hr,?_⟩;rcases h3 with⟨Kv,aLg⟩ | rfl
  ·have hOx':fR t'.agg cx u:=hOx;have hOy':fR t'.agg cy v:=hOy;rw[Kv]at hOx' hOy';have e1:u= .agg cx.toArray:=hOx';have e2:v= .agg cy.toArray:=hOy';subst e1 e2;exact⟨by simp,.inr ⟨rfl,aLg⟩,λop=>by cases op <;> rfl⟩
  ·simp only[cI]at hVx hVy;have e1:cx=[u]:=hOx;have e2:cy=[v]:=hOy;rw[hVx]at e1;rw[hVy]at e2;simp only[cz,eG]at e1 e2;subst e1 e2;exact⟨by simp,.inl rfl,λop=>by cases op <;> rfl⟩
 ·obtain⟨h1,h2⟩:=aG.1 he;obtain rfl:=ay.1 h2;rw[lu hx,lu hy];unfold xM.isSl at h1;split at h1 <;> try (cases h1;done)
  rename_i e hT;exact⟨eH λd=>by simp[df,run_underlying hT],by simp,.inl rfl,λop=>by cases op <;> rfl⟩
 ·obtain⟨h1,h2⟩:=aG.1 he;obtain⟨h3,h4⟩:=bS.1 h2;obtain rfl:=ay.1 h4;obtain⟨ad,cap,vs,rfl,_,hs,_⟩:=tQ hx;rw[lu hy];have hs:=hs (by simpa using h3);obtain⟨ad',rfl⟩:=bA.1 hs;unfold xM.isSl at h1;split at h1 <;> try (cases h1;done)
  rename_i e hT;exact⟨eH λd=>by simp[df,run_underlying hT],by simp,.inl rfl,λop=>by cases op <;> rfl⟩
 ·obtain⟨h1,h2⟩:=aG.1 he;obtain⟨h3,h4⟩:=bS.1 h2;obtain rfl:=ay.1 h4;obtain⟨ad,cap,vs,rfl,_,hs,_⟩:=tQ hy;rw[lu hx];have hs:=hs (by simpa using h3);obtain⟨ad',rfl⟩:=bA.1 hs;unfold xM.isSl at h1;split at h1 <;> try (cases h1;done)
  rename_i e hT;exact⟨eH λd=>by simp[df,run_underlying hT],by simp,.inl rfl,λop=>by cases op <;> rfl⟩
 ·obtain⟨h1,h2⟩:=aG.1 he;obtain⟨h3,h4⟩:=bS.1 h2;obtain rfl:=ay.1 h4;obtain⟨ad,cap,rfl,_,hs,_⟩:=qY hx;rw[lu hy];have hs:=hs (by simpa using h3);obtain⟨ad',rfl⟩:=bA.1 hs;unfold xM.isSl at h1;split at h1 <;> try (cases h1;done)
  rename_i e hT;exact⟨eH λd=>by simp[df,run_underlying hT],by simp,.inl rfl,λop=>by cases op <;> rfl⟩
 ·obtain⟨h1,h2⟩:=aG.1 he;obtain⟨h3,h4⟩:=bS.1 h2;obtain rfl:=ay.1 h4;obtain⟨ad,cap,rfl,_,hs,_⟩:=qY hy;rw[lu hx];have hs:=hs (by simpa using h3);obtain⟨ad',rfl⟩:=bA.1 hs;unfold xM.isSl at h1;split at h1 <;> try (cases h1;done)
  rename_i e hT;exact⟨eH λd=>by simp[df,run_underlying hT],by simp,.inl rfl,λop=>by cases op <;> rfl⟩
 ·obtain⟨h1,h2⟩:=aG.1 he;obtain rfl:=ay.1 h2;rw[AP hx,AP hy];unfold xM.isPt at h1;split at h1 <;> try (cases h1;done)
  rename_i e hT;exact⟨eH λd=>by simp[df,run_underlying hT],by simp,.inl rfl,λop=>by cases op <;> rfl⟩
 ·obtain⟨h1,h2⟩:=aG.1 he;obtain rfl:=ay.1 h2;obtain⟨ad,rfl,_⟩:=tM hx;rw[AP hy];unfold xM.isPt at h1;split at h1 <;> try (cases h1;done)
  rename_i e hT;exact⟨eH λd=>by simp[df,run_underlying hT],by simp,.inl rfl,λop=>by cases op <;> rfl⟩
 ·obtain⟨h1,h2⟩:=aG.1 he;obtain rfl:=ay.1 h2;obtain⟨ad,rfl,_⟩:=tM hy;rw[AP hx];unfold xM.isPt at h1;split at h1 <;> try (cases h1;done)
  rename_i e hT;exact⟨eH λd=>by simp[df,run_underlying hT],by simp,.inl rfl,λop=>by cases op <;> rfl⟩
 ·rename_i t q;obtain⟨h1,h2⟩:=aG.1 he;obtain rfl:=ay.1 h2;unfold xM.isPt at h1;split at h1 <;> try (cases h1;done)
  rename_i e hT;rw[AP hy];cases q with
  |none=>
   rw[Y7 hx];exact⟨eH λd=>by simp[df,run_underlying hT],by simp,.inl rfl,λop=>by cases op <;> rfl⟩
  |some z=>
   obtain⟨b,off,vs,rfl,_⟩:=ni (LG hx);exact⟨eH λd=>by simp[df,run_underlying hT],by simp,.inl rfl,λop=>by cases op <;> rfl⟩
 ·rename_i t q;obtain⟨h1,h2⟩:=aG.1 he;obtain rfl:=ay.1 h2;unfold xM.isPt at h1;split at h1 <;> try (cases h1;done)
  rename_i e hT;rw[AP hx];cases q with
  |none=>
   rw[Y7 hy];exact⟨eH λd=>by simp[df,run_underlying hT],by simp,.inl rfl,λop=>by cases op <;> rfl⟩
  |some z=>
   obtain⟨b,off,vs,rfl,_⟩:=ni (LG hy);exact⟨eH λd=>by simp[df,run_underlying hT],by simp,.inl rfl,λop=>by cases op <;> rfl⟩
 ·rename_i t q;obtain⟨h1,h2⟩:=aG.1 he;obtain rfl:=ay.1 h2;unfold xM.isPt at h1;split at h1 <;> try (cases h1;done)
  rename_i e hT;rw[AP hy];cases q with
  |none=>
   rw[Zc hx];exact⟨eH λd=>by simp[df,run_underlying hT],by simp,.inl rfl,λop=>by cases op <;> rfl⟩
  |some z=>
   obtain⟨b,off,vs,rfl,_⟩:=ni (LW hx);exact⟨eH λd=>by simp[df,run_underlying hT],by simp,.inl rfl,λop=>by cases op <;> rfl⟩
 ·rename_i t q;obtain⟨h1,h2⟩:=aG.1 he;obtain rfl:=ay.1 h2;unfold xM.isPt at h1;split at h1 <;> try (cases h1;done)
  rename_i e hT;rw[AP hx];cases q with
  |none=>
   rw[Zc hy];exact⟨eH λd=>by simp[df,run_underlying hT],by simp,.inl rfl,λop=>by cases op <;> rfl⟩
  |some z=>
   obtain⟨b,off,vs,rfl,_⟩:=ni (LW hy);exact⟨eH λd=>by simp[df,run_underlying hT],by simp,.inl rfl,λop=>by cases op <;> rfl⟩
 ·obtain⟨h1,h2⟩:=aG.1 he;obtain rfl:=ay.1 h2;rw[Sf hx,Sf hy];unfold xM.isFn at h1;split at h1 <;> try (cases h1;done)
  rename_i hT;exact⟨eH λd=>by simp[df,run_underlying hT],by simp,.inl rfl,λop=>by cases op <;> rfl⟩
 ·obtain⟨h1,h2⟩:=aG.1 he;obtain rfl:=ay.1 h2;obtain⟨vs,rfl,_⟩:=TE hx;rw[Sf hy];unfold xM.isFn at h1;split at h1 <;> try (cases h1;done)
  rename_i hT;exact⟨eH λd=>by simp[df,run_underlying hT],by simp,.inl rfl,λop=>by cases op <;> rfl⟩
 ·obtain⟨h1,h2⟩:=aG.1 he;obtain rfl:=ay.1 h2;obtain⟨vs,rfl,_⟩:=TE hy;rw[Sf hx];unfold xM.isFn at h1;split at h1 <;> try (cases h1;done)
  rename_i hT;exact⟨eH λd=>by simp[df,run_underlying hT],by simp,.inl rfl,λop=>by cases op <;> rfl⟩
 ·simp only[aw]at he
theorem ae5{op:BinOp}{T:TypeId}{x y:bK}{u v:Value}(hu:rJ u=aT)(hv:rJ v=aT)(hm:P.eqGuardType P.depth T=aR):(eqGuard op T x y u v).run P w= .ok () w:=by
 cases u <;> first | (simp[rJ]at hu;done) | skip
 cases v <;> first | (simp[rJ]at hv;done) | skip
 exact run_eqGuard_agg w op T x y _ _ hm
theorem aip(h:Inv C g β s a w){op:BinOp}{T U:TypeId}{x y:bK}(ho:o.op= .binOp op T x y U){v:aD}(he:(aDe P T op (s.ev x) (s.ev y)).eval=ao v):fL P o a w (gT C (s.put o.dst v)):=by
 have hx:=h.ev x;have hy:=h.ev y;have fin:∀z,(binOp op T (a.eval x) (a.eval y)).run P w= .ok z w->(eqGuard op T x y (a.eval x) (a.eval y)).run P w= .ok () w->VS (s.env w g β) v z->fL P o a w (gT C (s.put o.dst v)):=by
  intro z h1 h2 h3;refine h.value h3 ?_
  simp[execOp,ho,h1,h2]
 unfold aDe at he;split at he
 ·rename_i k n k' m hn hm;rw[hn]at hx;rw[hm]at hy;have e1:=uq hx;have e2:=uq hy;obtain⟨z,h1,h2⟩:=afJ (P:=P) (w:=w) he T (s.env w g β);exact fin z (by rw[e1,e2];exact h1) (by rw[e1,e2];exact nH (by simp) rfl) h2
 ·rename_i n m hn hm;rw[hn]at hx;rw[hm]at hy;have e1:=Gr hx;have e2:=Gr hy;obtain⟨z,h1,h2⟩:=ahv (P:=P) (w:=w) he T (s.env w g β);exact fin z (by rw[e1,e2];exact h1) (by rw[e1,e2];exact nH (by simp) rfl) h2
 ·have grd:(rJ (a.eval x)=aR\/(rJ (a.eval y)=aT/\P.eqGuardType P.depth T=aR))->a.eval x≠ .nilIface->(eqGuard op T x y (a.eval x) (a.eval y)).run P w= .ok () w:=by
   intro hh gj;rcases hh with hh | ⟨hh,hm⟩
   ·exact nH gj hh
   ·rcases iS (rJ (a.eval x)) with hx | hx
    ·exact ae5 hx hh hm
    ·exact nH gj hx
  split at he
  ·obtain⟨b,h1,h2⟩:=ax.1 he;obtain rfl:=ay.1 h2;obtain⟨q1,q2,q3,q4⟩:=Tz (w:=w) hx hy h1 rfl;refine fin (.bool b) ?_ (grd q3 q2) (uQ b)
   rw[q4 .eql];simp[q1]
  ·obtain⟨b,h1,h2⟩:=ax.1 he;obtain rfl:=ay.1 h2;obtain⟨q1,q2,q3,q4⟩:=Tz (w:=w) hx hy h1 rfl;refine fin (.bool (!b)) ?_ (grd q3 q2) (uQ (!b))
   rw[q4 .neq];simp[q1]
  ·simp only[aw]at he
theorem asf(h:Inv C g β s a w){op:UnOp}{T:TypeId}{x:bK}(ho:o.op= .unOp op T x){v:aD}(he:(aIg op (s.ev x)).eval=ao v):fL P o a w (gT C (s.put o.dst v)):=by
 have hx:=h.ev x;unfold aIg at he;split at he
 ·rename_i b hb;rw[hb]at hx;obtain rfl:=ay.1 he;exact h.value (uQ _) (by simp[execOp,ho,RW hx,Op.unary])
 ·rename_i k n hb;rw[hb]at hx;obtain rfl:=ay.1 he;exact h.value (lH _ _) (by simp[execOp,ho,uq hx,Op.unary,Op.intArith])
 ·rename_i k n hb;rw[hb]at hx;obtain rfl:=ay.1 he;refine h.value (lH _ _) ?_
  simp only[execOp,ho,uq hx,Op.unary,Op.intBits];simp[eh]
 ·simp only[aw]at he
end
end Go.Ab
namespace Go.Ab
section
variable {P:aM} {C:Ctx} {g:Nat->lY} {β:Id->Option Pl} {s:AS} {a:Act} {w:bW} {o:Oper}
theorem y6{E:Env}{v:aD}{y:Value}(h:VS E v y){n:Int}(he:(asInt v).eval=ao n):∃k,y= .int k n:=by
 unfold asInt at he;split at he
 ·rename_i k m;obtain rfl:=ay.1 he;exact⟨k,uq h⟩
 ·simp only[aw]at he
theorem y3{k:kR}{i:Int}{y:Nat}(code:BoundsCode)(h:0<=i/\i<=(y:Int)):(Instr.sliceBound (.int k i) y code).run P w= .ok i.toNat w:=run_sliceBound w k i y code h.1 h.2
theorem xp(h:Inv C g β s a w){n cap:Nat}(hn:n<=cap){lo hi:Option bK}{r:Nat×Nat}(he:(bounds s n lo hi).eval=ao r)(isS:Bool){mx:Option Value}{cap':Nat}
  (hm:(mx=aJ/\cap'=cap)\/∃k mv,hi.isSome=aT/\mx=ao (.int k mv)/\(r.2:Int)<=mv/\mv<=n/\cap'=mv.toNat):
  (Instr.sliceBounds isS n cap (lo.map a.eval) (hi.map a.eval) mx).run P w= .ok (r.1,r.2,cap') w/\r.1<=r.2/\r.2<=n:=by
 unfold bounds at he;obtain⟨hh,h1,h2⟩:=ax.1 he;obtain⟨ll,h3,h4⟩:=ax.1 h2;obtain rfl:=ay.1 h4;have aCq:hh<=n/\∀y,hi.map a.eval=ao y->∃k i,y= .int k i/\0<=i/\i<=(n:Int)/\hh=i.toNat:=by
  cases hi with
  |none=>
   simp only at h1;obtain rfl:=ay.1 h1;exact⟨aF _,λy hy=>by cases hy⟩
  |some x=>
   simp only at h1;obtain⟨i,q1,q2⟩:=ax.1 h1;obtain⟨q3,q4⟩:=bS.1 q2;obtain rfl:=ay.1 q4;simp only[aW]at q3;obtain⟨k,hk⟩:=y6 (h.ev x) q1;refine⟨au,λy hy=> ?_⟩;simp only[eo,az]at hy;exact⟨k,i,by rw[<-hy];exact hk,q3.1,q3.2,rfl⟩
 have az3:hi.map a.eval=aJ->hh=n:=by
  intro hy;cases hi with
  |none=>simp only at h1;exact(ay.1 h1).symm
  |some x=>cases hy
 have lo1:ll<=hh/\∀y,lo.map a.eval=ao y->∃k i,y= .int k i/\0<=i/\i<=(hh:Int)/\ll=i.toNat:=by
  cases lo with
  |none=>
   simp only at h3;obtain rfl:=ay.1 h3;exact⟨aN _,λy hy=>by cases hy⟩
  |some x=>
   simp only at h3;obtain⟨i,q1,q2⟩:=ax.1 h3;obtain⟨q3,q4⟩:=bS.1 q2;obtain rfl:=ay.1 q4;simp only[aW]at q3;obtain⟨k,hk⟩:=y6 (h.ev x) q1;refine⟨au,λy hy=> ?_⟩;simp only[eo,az]at hy;exact⟨k,i,by rw[<-hy];exact hk,q3.1,q3.2,rfl⟩
 have lo0:lo.map a.eval=aJ->ll=0:=by
  intro hy;cases lo with
  |none=>simp only at h3;exact(ay.1 h3).symm
  |some x=>cases hy
 refine⟨?_,lo1.1,aCq.1⟩;unfold Instr.sliceBounds;rcases hm with⟨rfl,rfl⟩ | ⟨k2,mv,hs,rfl,aKz,aMe,rfl⟩
 ·cases aHV:hi.map a.eval with
  |none=>
   obtain rfl:=az3 aHV;cases R6:lo.map a.eval with
   |none=>
    obtain rfl:=lo0 R6;rfl
   |some y=>
    obtain⟨k,i,rfl,q1,q2,rfl⟩:=lo1.2 y R6;simp only[cg,dY,bH,y3 _ ⟨q1,q2⟩]
  |some z=>
   obtain⟨k',i',rfl,p1,p2,rfl⟩:=aCq.2 z aHV;have hb:∀code,(Instr.sliceBound (.int k' i') cap' code).run P w= .ok i'.toNat w:=λcode=>y3 code ⟨p1,au⟩
   cases R6:lo.map a.eval with
   |none=>
    obtain rfl:=lo0 R6;simp only[cg,dY,bH,hb]
   |some y=>
    obtain⟨k,i,rfl,q1,q2,rfl⟩:=lo1.2 y R6;simp only[cg,dY,bH,hb,y3 _ ⟨q1,q2⟩]
 ·cases aHV:hi.map a.eval with
  |none=>cases hi <;> simp_all
  |some z=>
   obtain⟨k',i',rfl,p1,p2,rfl⟩:=aCq.2 z aHV;have aKz:((i'.toNat:Nat):Int)<=mv:=aKz;have h0:∀code,(Instr.sliceBound (.int k2 mv) cap code).run P w= .ok mv.toNat w:=λcode=>y3 code ⟨au,au⟩
   have hb:∀code,(Instr.sliceBound (.int k' i') mv.toNat code).run P w= .ok i'.toNat w:=λcode=>y3 code ⟨p1,au⟩
   cases R6:lo.map a.eval with
   |none=>
    obtain rfl:=lo0 R6;simp only[cg,dY,bH,hb,h0]
   |some y=>
    obtain⟨k,i,rfl,q1,q2,rfl⟩:=lo1.2 y R6;simp only[cg,dY,bH,hb,h0,y3 _ ⟨q1,q2⟩]
theorem oH{T:TypeId}{z:Nat}(h1:lf P T=ao z)(h2:wZ P T=aJ):∃e,P.underlying T=ao (.slice e)/\P.cellsOf e=z/\0 < z:=by
 unfold lf at h1;unfold wZ at h2;split at h1
 ·rename_i n e hT;rw[hT]at h2;cases h2
 ·rename_i e hT;cases hc:P.cellsOf e with
  |zero=>rw[hc]at h1;cases h1
  |succ k=>
   rw[hc]at h1;simp only[az]at h1;exact⟨e,hT,au,au⟩
 ·cases h1
theorem xK{T:TypeId}{z n:Nat}(h1:lf P T=ao z)(h2:wZ P T=ao n):∃e,P.underlying T=ao (.array n e)/\P.cellsOf e=z/\0 < z:=by
 unfold lf at h1;unfold wZ at h2;split at h1
 ·rename_i n e hT;rw[hT]at h2;simp only[az]at h2;subst h2;cases hc:P.cellsOf e with
  |zero=>rw[hc]at h1;cases h1
  |succ k=>
   rw[hc]at h1;simp only[az]at h1;exact⟨e,hT,au,au⟩
 ·rename_i e hT;rw[hT]at h2;cases h2
 ·cases h1
theorem pd{e:TypeId}{z:Nat}(h:P.cellsOf e=z)(hz:0 < z)(w:bW):(sizeOf e).run P w= .ok z w:=by
 unfold Program.cellsOf at h;cases hi:P.info? e with
 |none=>rw[hi]at h;simp at h;omega
 |some i=>rw[hi]at h;rw[run_sizeOf hi];simpa using h
set_option maxHeartbeats 1000000 in
theorem Wf(h:Inv C g β s a w){T:TypeId}{x:bK}{lo hi mx:Option bK}(ho:o.op= .slice T x lo hi mx)
  (hm:mx=aJ\/∃m y hv mv,mx=ao m/\hi=ao y/\(asInt (s.ev y)).eval=ao hv/\(asInt (s.ev m)).eval=ao mv/\0<=hv/\hv<=mv/\mv<=aAy (s.ev x))
  {v:aD} (he:(Gn P s T (s.ev x) lo hi).eval=ao v):fL P o a w (gT C (s.put o.dst (aeW mx v))):=by
 have hx:=h.ev x;have fin:∀z,(Instr.sliceAt T (a.eval x) (lo.map a.eval) (hi.map a.eval) (mx.map a.eval)).run P w= .ok z w->VS (s.env w g β) (aeW mx v) z->fL P o a w (gT C (s.put o.dst (aeW mx v))):=by intro z h1 h2;exact h.value h2 (eu (f:=Instr.sliceAt T (a.eval x) (lo.map a.eval) (hi.map a.eval) (mx.map a.eval)) (by simp only[execOp,ho]) h1)
 have no:∀ {q:Prop},aAy (s.ev x)= -1->(mx=aJ->q)->q:=by
  intro q h1 h2;rcases hm with h3 | ⟨_,_,hv,mv,_,_,_,_,h3,h4,h5⟩
  ·exact h2 h3
  ·omega
 have sl:∀(e:TypeId) (z:Nat) (ad:Option Addr) (len cap:Nat) (b:Nat×Nat),aAy (s.ev x)=(len:Int)->P.underlying T=ao (.slice e)->P.cellsOf e=z->0 < z->a.eval x= .slice ad len cap->len<=cap->(bounds s len lo hi).eval=ao b->
   ∃cap',(Instr.sliceAt T (a.eval x) (lo.map a.eval) (hi.map a.eval) (mx.map a.eval)).run P w= .ok (.slice (if cap'=b.1 then ad else ad.map (·.add (b.1*z))) (b.2 - b.1) (cap' - b.1)) w/\b.1<=b.2/\b.2<=len/\b.2<=cap'/\cap'<=cap/\(mx=aJ->cap'=cap):=by
  intro e z ad len cap b hL hT hz sI hy asq hb;rcases hm with rfl | ⟨m,y,hv,mv,rfl,rfl,q1,q2,q3,q4,q5⟩
  ·obtain⟨h1,h2,h3⟩:=xp (P:=P) h asq hb aT (.inl ⟨rfl,rfl⟩);refine⟨cap,?_,h2,h3,au,aF _,λ_=>rfl⟩;rw[hy];simp[Instr.sliceAt,Instr.slice,run_underlying hT,h1,pd hz sI]
  ·obtain⟨k,hk⟩:=y6 (h.ev m) q2;have R4:(b.2:Int)<=mv:=by obtain⟨hh,h1,h2⟩:=ax.1 hb;obtain⟨i,r1,r2⟩:=ax.1 h1;obtain⟨r3,r4⟩:=bS.1 r2;obtain rfl:=ay.1 r4;obtain⟨ll,_,h4⟩:=ax.1 h2;obtain rfl:=ay.1 h4;rw[q1]at r1;obtain rfl:=aP r1;show((hv.toNat:Nat):Int)<=mv;omega
   obtain⟨h1,h2,h3⟩:=xp (P:=P) h asq hb aT (mx:=ao (.int k mv)) (cap':=mv.toNat) (.inr ⟨k,mv,rfl,rfl,R4,au,rfl⟩);refine⟨mv.toNat,?_,h2,h3,au,au,λh=>by cases h⟩;rw[hy,eo (a:=m),hk];simp[Instr.sliceAt,Instr.slice,run_underlying hT,pd hz sI];simp only[eo]at h1;simp[h1]
 have ar:∀(e:TypeId) (z n:Nat) (ad:Addr) (b:Nat×Nat),mx=aJ->P.underlying T=ao (.array n e)->P.cellsOf e=z->0 < z->a.eval x= .pointer (ao ad)->(bounds s n lo hi).eval=ao b->
   (Instr.sliceAt T (a.eval x) (lo.map a.eval) (hi.map a.eval) (mx.map a.eval)).run P w= .ok (.slice (ao (if n=b.1 then ad else ad.add (b.1*z))) (b.2 - b.1) (n - b.1)) w/\b.1<=b.2/\b.2<=n:=by
  intro e z n ad b hN hT hz sI hy hb;obtain⟨h1,h2,h3⟩:=xp (P:=P) h (aF n) hb aR (.inl ⟨rfl,rfl⟩);refine⟨?_,h2,h3⟩;rw[hy,hN];simp[Instr.sliceAt,Instr.sureAddr,run_underlying hT,h1,pd hz sI]
 have cutR:∀(t:Ty) (z:Nat) (ad ad':Option Addr) (len' cap':Nat) (vs:List Value) (l:List t.den) (b:Nat×Nat),z=t.size->wW (s.env w g β) ad vs->bq (cI (s.env w g β) t) vs l->b.1<=b.2->b.2<=l.length->
   (∀bb off,ad=ao ⟨bb,off,aJ⟩->b.1 < b.2->ad'=ao ⟨bb,off+b.1*z,aJ⟩)->(b.1 < b.2->ad'.isSome=aT)->len'=b.2 - b.1->len'<=cap'->VS (s.env w g β) (.d (.slice t) (cut l b.1 (b.2 - b.1))) (.slice ad' len' cap'):=by
  intro t z ad ad' len' cap' vs l b hz hr hc h1 h2 aIB qh hlen hle;subst hz hlen;have asp:(cut l b.1 (b.2 - b.1)).length=b.2 - b.1:=Di au;refine⟨_,?_,rfl⟩;simp only[V,cI];refine⟨ad',cap',(vs.drop (b.1*t.size)).take ((b.2 - b.1)*t.size),by rw[asp],au,by rw[asp];intro hp;exact qh au,?_,I5 hc b.1 _⟩;intro i v hi;rw[c9]at hi;split at hi
  ·rename_i aLi;rw[fx]at hi;obtain⟨bb,off,e,hh⟩:=hr _ v hi;have je:b.1 < b.2:=by
    rcases pC b.1 b.2 with h' | h'
    ·exact h'
    ·rw[ky h',mN]at aLi;omega
   exact⟨bb,_,aIB bb off e je,by rw[fF];exact hh⟩
  ·cases hi
 unfold Gn at he;split at he
 ·rename_i st nQ;rw[nQ]at hx;have e1:=Gr hx;obtain⟨h1,h2⟩:=aG.1 he;obtain⟨b,h3,h4⟩:=ax.1 h2;obtain rfl:=ay.1 h4;split at h1 <;> try (cases h1;done)
  rename_i hT;obtain⟨q1,q2,q3⟩:=xp (P:=P) h (aF _) h3 aR (.inl ⟨rfl,rfl⟩);refine no (by rw[nQ];rfl) λhN=> ?_
  subst hN;refine fin (.string (st.extract b.1 b.2)) ?_ (aal _)
  rw[e1];simp[Instr.sliceAt,Instr.slice,run_underlying hT,q1]
 ·rename_i t l hl;rw[hl]at hx;obtain⟨ad,cap,vs,hy,asq,qh,sJ,uZ⟩:=tQ hx;obtain⟨h1,h2⟩:=aG.1 he;obtain⟨b,h3,h4⟩:=ax.1 h2;obtain rfl:=ay.1 h4;split at h1 <;> try (cases h1;done)
  rename_i z NK LQ;obtain⟨e,hT,hz,sI⟩:=oH NK LQ;have apE:z=t.size:=by simpa using h1
  obtain⟨cap',q1,q2,q3,q4,_,_⟩:=sl e z ad _ cap b (by rw[hl];rfl) hT hz sI hy asq h3;refine fin _ q1 ?_
  rw[show aeW mx (.d (.slice t) (cut l b.1 (b.2 - b.1)))= .d (.slice t) (cut l b.1 (b.2 - b.1)) by cases mx <;> rfl];refine cutR t z ad _ _ _ vs l b apE sJ uZ q2 q3 ?_ ?_ rfl au
  ·intro bb off e1 je;rw[if_neg au,e1];simp[fv]
  ·intro je;rw[if_neg au];have:=qh au;cases ad <;> simp_all
 ·rename_i hl;rw[hl]at hx;have hy:=lu hx;obtain⟨h1,h2⟩:=aG.1 he;obtain⟨b,h3,h4⟩:=ax.1 h2;obtain rfl:=ay.1 h4;split at h1 <;> try (cases h1;done)
  rename_i z NK LQ;obtain⟨e,hT,hz,sI⟩:=oH NK LQ;obtain⟨cap',q1,q2,q3,q4,q6,q5⟩:=sl e z aJ 0 0 b (by rw[hl];rfl) hT hz sI hy (aF _) h3;have NH:b.1=0:=au;have R4:b.2=0:=au;have R5:cap'=0:=au;refine fin _ q1 ?_
  rw[show aeW mx .dH= .dH by cases mx <;> rfl,NH,R4,R5];exact⟨_,by simp[V],rfl⟩
 ·rename_i id ver p c i len hl;rw[hl]at hx;obtain⟨ad,cap,hy,asq,qh,TN,fD⟩:=qY hx;obtain⟨r,aD8,he⟩:=ax.1 he;obtain⟨h1,h2⟩:=aG.1 he;obtain⟨b,h3,h4⟩:=ax.1 h2;obtain rfl:=ay.1 h4;split at h1 <;> try (cases h1;done)
  rename_i z NK LQ;obtain⟨e,hT,hz,sI⟩:=oH NK LQ;have apE:z=r.2.1.size:=by simpa using h1
  obtain⟨cap',q1,q2,q3,q4,q6,q5⟩:=sl e z ad _ cap b (by rw[hl];rfl) hT hz sI hy asq h3;obtain⟨p',aFv,Rv⟩:∃p',aeW mx (.b8 id ver p (c+b.1*r.2.1.size) (i+b.1) (b.2 - b.1))= .b8 id ver p' (c+b.1*r.2.1.size) (i+b.1) (b.2 - b.1)/\(p'=[]->p=[]/\mx=aJ):=by
   cases mx with
   |none=>exact⟨p,rfl,λh=>⟨h,rfl⟩⟩
   |some m=>exact⟨p++ [.arr],rfl,λh=>by simp at h⟩
  refine fin _ q1 ?_
  rw[aFv];refine⟨_,?_,rfl⟩;simp only[V];refine⟨_,_,rfl,au,?_,TN,λhc=> ?_⟩
  ·intro je;rw[if_neg au];have:=qh au;cases ad <;> simp_all
  ·have fD:=fD hc;cases hp:β id with
   |none=>
    have hp':(s.env w g β).β id=aJ:=hp;rw[hp']at fD ⊢;simp only at fD ⊢;obtain⟨rfl,rfl,rfl⟩:=fD;have R5:cap'=0:=au;refine⟨by simp,au,au⟩
   |some pl=>
    have hp':(s.env w g β).β id=ao pl:=hp;rw[hp']at fD ⊢;simp only at fD ⊢;refine⟨λhh=> ?_,λaJa az3=> ?_⟩
    ·by_cases aDS:cap'=b.1
     ·rw[if_pos aDS];have aHO:b.1=0:=au;rw[aHO,mN,cX];exact fD.1 (.inr au)
     ·rw[if_neg aDS,fD.1 au,<-apE];simp[fv]
    ·obtain⟨e1,e2⟩:=Rv aJa;have:=fD.2 e1 au;have:=q5 e2;omega
 ·rename_i id ver p n hl;rw[hl]at hx;obtain⟨ad,hy,TN,fD⟩:=tM hx;obtain⟨r,aD8,he⟩:=ax.1 he;obtain⟨h1,h2⟩:=aG.1 he;obtain⟨h5,h6⟩:=bS.1 h2;obtain⟨b,h3,h4⟩:=ax.1 h6;obtain rfl:=ay.1 h4;split at h1 <;> try (cases h1;done)
  rename_i z m NK LQ;obtain⟨e,hT,hz,sI⟩:=xK NK LQ;have apE:z=r.2.1.size:=by simpa using h1
  rw[LQ,dz]at h3;refine no (by rw[hl];rfl) λhN=> ?_
  obtain⟨q1,q2,q3⟩:=ar e z m ad b hN hT hz sI hy h3;subst hN;obtain⟨fr,c0,cP,_⟩:=O6 rfl h.bN aD8;obtain⟨pl,hp,ajj⟩:=fD ⟨fr,c0,cP⟩;refine fin _ q1 ⟨_,?_,rfl⟩;simp only[aeW,V];refine⟨_,_,rfl,au,λ_=>rfl,TN,λ_=> ?_⟩;rw[hp];simp only;refine⟨λhh=> ?_,λaJa=>by simp at aJa⟩;rw[ajj];by_cases aDS:m=b.1
  ·have aHO:b.1=0:=au;rw[if_pos aDS,aHO,mN,cX]
  ·rw[if_neg aDS,<-apE,fv]
 ·rename_i n t l hl;rw[hl]at hx;obtain⟨bb,off,vs,hy,sJ,hR⟩:=ni hx;obtain⟨h1,h2⟩:=aG.1 he;obtain⟨b,h3,h4⟩:=ax.1 h2;obtain rfl:=ay.1 h4;split at h1 <;> try (cases h1;done)
  rename_i z m NK LQ;obtain⟨e,hT,hz,sI⟩:=xK NK LQ;simp only[av,dB]at h1;obtain⟨apE,rfl⟩:=h1;refine no (by rw[hl];rfl) λhN=> ?_
  obtain⟨q1,q2,q3⟩:=ar e z m _ b hN hT hz sI hy h3;subst hN;simp only[cI]at hR;obtain⟨hlen,uZ⟩:=hR;refine fin _ q1 (cutR t z (ao ⟨bb,off,aJ⟩) _ _ _ vs l b apE sJ uZ q2 au ?_ (λ_=>rfl) rfl au);intro bb' off' e1 je;simp only[az,Addr.mk.injEq,eG]at e1;obtain⟨rfl,rfl⟩:=e1;rw[if_neg au,fv]
 ·simp only[aw]at he
end
end Go.Ab
namespace Go.Ab
section
variable {P:aM} {C:Ctx} {g:Nat->lY} {β:Id->Option Pl} {s:AS} {a:Act} {w:bW} {o:Oper}
theorem TY(h:Inv C g β s a w){T:TypeId}{x y:bK}(ho:o.op= .indexAddr T x y){i:Int}(hi:(asInt (s.ev y)).eval=ao i){v:aD}(he:(rI P s T (s.ev x) i).eval=ao v):fL P o a w (gT C (s.put o.dst v)):=by
 have hx:=h.ev x;obtain⟨k,hy⟩:=y6 (h.ev y) hi;have fin:∀z,(Instr.indexAt T (a.eval x) (a.eval y)).run P w= .ok z w->VS (s.env w g β) v z->fL P o a w (gT C (s.put o.dst v)):=by intro z h1 h2;exact h.value h2 (eu (f:=Instr.indexAt T (a.eval x) (a.eval y)) (by simp only[execOp,ho]) h1)
 have sl:∀(e:TypeId) (z:Nat) (ad:Addr) (len cap:Nat),P.underlying T=ao (.slice e)->P.cellsOf e=z->0 < z->a.eval x= .slice (ao ad) len cap->0<=i/\i < (len:Int)->
   (Instr.indexAt T (a.eval x) (a.eval y)).run P w= .ok (.pointer (ao (ad.add (i.toNat*z)))) w:=by
  intro e z ad len cap hT hz sI hv hb;rw[hv,hy];simp[Instr.indexAt,asIntOf,run_underlying hT,hb,pd hz sI]
 have ar:∀(e:TypeId) (z n:Nat) (ad:Addr),P.underlying T=ao (.array n e)->P.cellsOf e=z->0 < z->a.eval x= .pointer (ao ad)->0<=i/\i < (n:Int)->
   (Instr.indexAt T (a.eval x) (a.eval y)).run P w= .ok (.pointer (ao (ad.add (i.toNat*z)))) w:=by
  intro e z n ad hT hz sI hv hb;rw[hv,hy];simp[Instr.indexAt,Instr.sureAddr,asIntOf,run_underlying hT,hb,pd hz sI]
 have elt:∀(t:Ty) (z:Nat) (bb off:Nat) (vs:List Value) (l:List t.den),z=t.size->wW (s.env w g β) (ao ⟨bb,off,aJ⟩) vs->bq (cI (s.env w g β) t) vs l->0<=i/\i < (l.length:Int)->
   VS (s.env w g β) (.eI t (nth t l i.toNat)) (.pointer (ao ⟨bb,off+i.toNat*z,aJ⟩)):=by
  intro t z bb off vs l hz hr hc hb;subst hz;have je:i.toNat < l.length:=au;rw[UW je];obtain⟨hp,_⟩:=M3 hc je;refine⟨_,?_,rfl⟩;simp only[V];refine⟨_,_,_,rfl,λj v hj=> ?_,hp⟩;rw[c9]at hj;split at hj
  ·rw[fx]at hj;obtain⟨b',o',e,hh⟩:=hr _ v hj;simp only[az,Addr.mk.injEq,eG]at e;obtain⟨rfl,rfl⟩:=e;exact⟨_,_,rfl,by rw[fF];exact hh⟩
  ·cases hj
 unfold rI at he;split at he
 ·rename_i t l hl;rw[hl]at hx;obtain⟨ad,cap,vs,hv,asq,qh,sJ,uZ⟩:=tQ hx;obtain⟨h1,h2⟩:=aG.1 he;obtain⟨h3,h4⟩:=bS.1 h2;obtain rfl:=ay.1 h4;simp only[aW]at h3;split at h1 <;> try (cases h1;done)
  rename_i z NK LQ;obtain⟨e,hT,hz,sI⟩:=oH NK LQ;have apE:z=t.size:=by simpa using h1
  have hlen:=bq.length (λc x hx=>cI.size hx) uZ;have je:i.toNat < l.length:=au;have h0:0 < vs.length:=by rw[hlen];exact Nat.mul_pos au au
  obtain⟨bb,off,e1,_⟩:=sJ 0 vs[0] (by simp[h0]);subst e1;have:=sl e z _ _ cap hT hz sI hv h3;rw[fv]at this;exact fin _ this (elt t z bb off vs l apE sJ uZ h3)
 ·rename_i n t l hl;rw[hl]at hx;obtain⟨bb,off,vs,hv,sJ,hR⟩:=ni hx;obtain⟨h1,h2⟩:=aG.1 he;obtain⟨h3,h4⟩:=bS.1 h2;obtain rfl:=ay.1 h4;simp only[aW]at h3;split at h1 <;> try (cases h1;done)
  rename_i z m NK LQ;obtain⟨e,hT,hz,sI⟩:=xK NK LQ;simp only[av,dB]at h1;obtain⟨apE,rfl⟩:=h1;simp only[cI]at hR;have:=ar e z m _ hT hz sI hv h3;rw[fv]at this;exact fin _ this (elt t z bb off vs l apE sJ hR.2 (by rw[hR.1];exact h3))
 ·rename_i id ver p c j len hl;rw[hl]at hx;obtain⟨ad,cap,hv,asq,qh,TN,fD⟩:=qY hx;obtain⟨r,aD8,he⟩:=ax.1 he;obtain⟨h1,h2⟩:=aG.1 he;obtain⟨h3,h4⟩:=bS.1 h2;obtain rfl:=ay.1 h4;simp only[aW]at h3;split at h1 <;> try (cases h1;done)
  rename_i z NK LQ;obtain⟨e,hT,hz,sI⟩:=oH NK LQ;have apE:z=r.2.1.size:=by simpa using h1
  have hs:=qh au;obtain⟨ad',rfl⟩:=bA.1 hs;refine fin _ (sl e z ad' len cap hT hz sI hv h3) ⟨_,?_,rfl⟩;simp only[V];refine⟨_,rfl,TN,λhc=> ?_⟩;have fD:=fD hc;cases hp:β id with
  |none=>
   have hp':(s.env w g β).β id=aJ:=hp;rw[hp']at fD;exact absurd fD.1 (by simp)
  |some pl=>
   have hp':(s.env w g β).β id=ao pl:=hp;rw[hp']at fD;have e1:=fD.1 (.inl au);simp only[az]at e1;exact⟨pl,hp,by rw[e1,fv,apE]⟩
 ·rename_i id ver p n hl;rw[hl]at hx;obtain⟨ad,hv,TN,fD⟩:=tM hx;obtain⟨h1,h2⟩:=aG.1 he;obtain⟨h3,h4⟩:=bS.1 h2;obtain rfl:=ay.1 h4;simp only[aW]at h3;split at h1 <;> try (cases h1;done)
  rename_i z m NK LQ;obtain⟨e,hT,hz,sI⟩:=xK NK LQ;rw[LQ,dz]at h3;refine fin _ (ar e z m ad hT hz sI hv h3) ⟨_,?_,rfl⟩;simp only[V];refine⟨_,rfl,TN,λhc=> ?_⟩;obtain⟨pl,hp,ajj⟩:=fD hc;exact⟨pl,hp,by rw[ajj,fv,NK,dz]⟩
 ·simp only[aw]at he
theorem Ej{T:TypeId}{f off:Nat}{ft:TypeId}(h:fieldInfo P T f=ao (off,ft)):∃fs fd,P.underlying T=ao (.struct fs)/\fs[f]? =ao fd/\fd.offset=off/\fd.type=ft:=by
 unfold fieldInfo at h;split at h
 ·rename_i fs hT;split at h
  ·rename_i fd hf;simp only[az,cK]at h;exact⟨fs,fd,hT,hf,h.1,h.2⟩
  ·cases h
 ·cases h
theorem yn{E:Env}:∀(x:aD) (f off:Nat) (v:aD) (cs:List Value),V E x cs->partOf x f=ao (off,v)->V E v ((cs.drop off).take v.size)/\off+v.size<=cs.length:=by
 intro x f
 induction f generalizing x with
 |zero=>
  intro off v cs hx h;cases x with
  |d t y=>
   cases t <;> simp only[partOf,reduceCtorEq]at h;rename_i ta tb;simp only[az,cK]at h;obtain⟨rfl,rfl⟩:=h;simp only[V,cI]at hx ⊢;obtain⟨ca,cb,rfl,ha,hb⟩:=hx;have:=ha.size;simp only[aD.size,aQ,ak,bg];rw[kJ this];exact⟨ha,au⟩
  |pr b c=>
   simp only[partOf,az,cK]at h;obtain⟨rfl,rfl⟩:=h;simp only[V]at hx;obtain⟨ca,cb,rfl,ha,hb⟩:=hx;have:=ha.size;simp only[aQ,ak,bg];rw[kJ this];exact⟨ha,au⟩
  |_=>simp only[partOf,reduceCtorEq]at h
 |succ f ih=>
  intro off v cs hx h;have second:∀(ca cb:List Value) (n:Nat) (b:aD),cs=ca++cb->ca.length=n->V E b cb->(match partOf b f with | some (o,v)=>ao (n+o,v) | none=>aJ)=ao (off,v)->V E v ((cs.drop off).take v.size)/\off+v.size<=cs.length:=by
   intro ca cb n b e hl hb hh;cases hp:partOf b f with
   |none=>rw[hp]at hh;cases hh
   |some r=>
    obtain⟨o',v'⟩:=r;rw[hp]at hh;simp only[az,cK]at hh;obtain⟨rfl,rfl⟩:=hh;obtain⟨h1,h2⟩:=ih b o' v' cb hb hp;subst e;rw[<-hl,jY,fZ au,aY,Nat.add_sub_cancel_left];exact⟨h1,by simp only[ak];omega⟩
  cases x with
  |d t y=>
   cases t with
   |pair ta tb=>
    simp only[partOf]at h;simp only[V,cI]at hx;obtain⟨ca,cb,e,ha,hb⟩:=hx;exact second ca cb ta.size (.d tb y.2) e ha.size (by simpa only[V]using hb) h
   |_=>simp only[partOf,reduceCtorEq]at h
  |pr b c=>
   simp only[partOf]at h;simp only[V]at hx;obtain⟨ca,cb,e,ha,hb⟩:=hx;exact second ca cb b.size c e ha.size hb h
  |_=>simp only[partOf,reduceCtorEq]at h
theorem TD(h:Inv C g β s a w){T:TypeId}{x:bK}{f:Nat}(ho:o.op= .fieldAddr T x f){v:aD}(he:(Ds P T (s.ev x) f).eval=ao v):fL P o a w (gT C (s.put o.dst v)):=by
 have hx:=h.ev x;unfold Ds at he;split at he
 ·rename_i off ft hf;obtain⟨fs,fd,hT,aHR,rfl,rfl⟩:=Ej hf;obtain⟨h1,h2⟩:=aG.1 he;have hz:P.cellsOf fd.type≠0:=by simpa using h1
  have run:∀bb n,a.eval x= .pointer (ao ⟨bb,n,aJ⟩)->(Instr.fieldAt T (a.eval x) f).run P w= .ok (.pointer (ao ⟨bb,n+fd.offset,aJ⟩)) w:=by intro bb n hy;rw[hy];simp[Instr.fieldAt,run_underlying hT,aHR,Instr.sureAddr,fieldPlace,pd (P:=P) (e:=fd.type) rfl au,hz,fv]
  have runS:∀ad,a.eval x= .pointer (ao ad)->(Instr.fieldAt T (a.eval x) f).run P w= .ok (.pointer (ao (ad.add fd.offset))) w:=by intro ad hy;rw[hy];simp[Instr.fieldAt,run_underlying hT,aHR,Instr.sureAddr,fieldPlace,pd (P:=P) (e:=fd.type) rfl au,hz]
  have fin:∀z,(Instr.fieldAt T (a.eval x) f).run P w= .ok z w->VS (s.env w g β) v z->fL P o a w (gT C (s.put o.dst v)):=by intro z h1 h2;exact h.value h2 (eu (f:=Instr.fieldAt T (a.eval x) f) (by simp only[execOp,ho]) h1)
  split at h2
  ·rename_i id ver p n hl;rw[hl]at hx;obtain rfl:=ay.1 h2;obtain⟨ad,hy,TN,fD⟩:=tM hx;refine fin _ (runS ad hy) ⟨_,?_,rfl⟩;simp only[V];refine⟨_,rfl,TN,λhc=> ?_⟩;obtain⟨pl,hp,ajj⟩:=fD hc;exact⟨pl,hp,by rw[ajj,fv]⟩
  ·rename_i t y hl;rw[hl]at hx;obtain⟨bb,off,vs,hy,sJ,hR⟩:=ni hx;split at h2
   ·rename_i o' t' y' hp;obtain⟨h3,h4⟩:=aG.1 h2;obtain rfl:=ay.1 h4;have h3:fd.offset=o':=by simpa using h3
    obtain⟨hV,hle⟩:=yn (.d t y) f o' (.d t' y') vs (by simpa only[V]using hR) hp;refine fin _ (run bb off hy) ⟨_,?_,rfl⟩;simp only[V]at hV ⊢;refine⟨_,_,_,rfl,λj u hj=> ?_,hV⟩;rw[c9]at hj;split at hj
    ·rw[fx]at hj;obtain⟨b',o'',e,hh⟩:=sJ _ u hj;simp only[az,Addr.mk.injEq,eG]at e;obtain⟨rfl,rfl⟩:=e;exact⟨_,_,rfl,by rw[h3,fF];exact hh⟩
    ·cases hj
   ·simp only[aw]at h2
  ·rename_i t q hl;obtain⟨y,e,h5⟩:=mf.1 h2;subst e;rw[hl]at hx;have hx:=LG hx;obtain⟨bb,off,vs,hy,sJ,hR⟩:=ni hx;split at h5
   ·rename_i o' t' y' hp;obtain⟨h3,h4⟩:=aG.1 h5;obtain rfl:=ay.1 h4;have h3:fd.offset=o':=by simpa using h3
    obtain⟨hV,hle⟩:=yn (.d t y) f o' (.d t' y') vs (by simpa only[V]using hR) hp;refine fin _ (run bb off hy) ⟨_,?_,rfl⟩;simp only[V]at hV ⊢;refine⟨_,_,_,rfl,λj u hj=> ?_,hV⟩;rw[c9]at hj;split at hj
    ·rw[fx]at hj;obtain⟨b',o'',e,hh⟩:=sJ _ u hj;simp only[az,Addr.mk.injEq,eG]at e;obtain⟨rfl,rfl⟩:=e;exact⟨_,_,rfl,by rw[h3,fF];exact hh⟩
    ·cases hj
   ·simp only[aw]at h5
  ·rename_i t q hl;obtain⟨y,e,h5⟩:=mf.1 h2;subst e;rw[hl]at hx;have hx:=LW hx;obtain⟨bb,off,vs,hy,sJ,hR⟩:=ni hx;split at h5
   ·rename_i o' t' y' hp;obtain⟨h3,h4⟩:=aG.1 h5;obtain rfl:=ay.1 h4;have h3:fd.offset=o':=by simpa using h3
    obtain⟨hV,hle⟩:=yn (.d t y.2) f o' (.d t' y') vs (by simpa only[V]using hR) hp;refine fin _ (run bb off hy) ⟨_,?_,rfl⟩;simp only[V]at hV ⊢;refine⟨_,_,_,rfl,λj u hj=> ?_,hV⟩;rw[c9]at hj;split at hj
    ·rw[fx]at hj;obtain⟨b',o'',e,hh⟩:=sJ _ u hj;simp only[az,Addr.mk.injEq,eG]at e;obtain⟨rfl,rfl⟩:=e;exact⟨_,_,rfl,by rw[h3,fF];exact hh⟩
    ·cases hj
   ·simp only[aw]at h5
  ·simp only[aw]at h2
 ·simp only[aw]at he
theorem Xb{x:aD}{f:Nat}{r:Nat×aD}(h:partOf x f=ao r):x.agg=aT/\x.eQ=aT:=by
 cases x with
 |d t y=>cases t <;> cases f <;> simp[partOf]at h <;> exact⟨rfl,rfl⟩
 |pr b c=>exact⟨rfl,rfl⟩
 |_=>cases f <;> simp[partOf]at h
theorem Fl{T:TypeId}{v:aD}(h:fits P T v=aT):JH P T v.agg=aT/\P.cellsOf T=v.size/\v.eQ=aT:=by unfold fits at h;simp only[av,dB]at h;exact⟨h.2,h.1.2,h.1.1⟩
theorem aja(h:Inv C g β s a w){T:TypeId}{x:bK}{f:Nat}(ho:o.op= .field T x f){v:aD}(he:(abk P T (s.ev x) f).eval=ao v):fL P o a w (gT C (s.put o.dst v)):=by
 have hx:=h.ev x;unfold abk at he;split at he
 ·rename_i off ft o' v' hf hp;obtain⟨fs,fd,hT,aHR,rfl,rfl⟩:=Ej hf;obtain⟨h1,h2⟩:=aG.1 he;obtain rfl:=ay.1 h2;simp only[av,dB]at h1;obtain⟨rfl,TP⟩:=h1;obtain⟨Kv,ajl⟩:=Xb hp;obtain⟨cs,hV,hO⟩:=hx.eQ ajl;rw[Kv]at hO;have hy:a.eval x= .agg cs.toArray:=hO;obtain⟨hVp,hle⟩:=yn _ _ _ _ cs hV hp;obtain⟨q1,q2,q3⟩:=Fl TP;obtain⟨y,hr,hOy⟩:=wk (w:=w) q1 q2 (λhh=>aD.ahm hh) hle;refine h.value (VS.of hVp hOy) (eu (f:=Instr.field T (a.eval x) f) (by simp only[execOp,ho]) ?_);rw[hy];simp[Instr.field,run_underlying hT,aHR,asAgg,hr]
 ·simp only[aw]at he
theorem ajA(h:Inv C g β s a w){T:TypeId}{x y:bK}(ho:o.op= .index T x y){i:Int}(hi:(asInt (s.ev y)).eval=ao i){v:aD}(he:(abB P T (s.ev x) i).eval=ao v):fL P o a w (gT C (s.put o.dst v)):=by
 have hx:=h.ev x;obtain⟨k,hy⟩:=y6 (h.ev y) hi;have fin:∀z,(Instr.index T (a.eval x) (a.eval y)).run P w= .ok z w->VS (s.env w g β) v z->fL P o a w (gT C (s.put o.dst v)):=by intro z h1 h2;exact h.value h2 (eu (f:=Instr.index T (a.eval x) (a.eval y)) (by simp only[execOp,ho]) h1)
 unfold abB at he;split at he
 ·rename_i n t l m e hl hT;rw[hl]at hx;obtain⟨h1,h2⟩:=aG.1 he;obtain⟨h3,h4⟩:=bS.1 h2;obtain rfl:=ay.1 h4;simp only[av,dB,aW]at h1 h3;obtain⟨rfl,TP⟩:=h1;obtain⟨q1,q2,q3⟩:=Fl TP;obtain⟨cs,hV,hO⟩:=hx.eQ rfl;have aLJ:a.eval x= .agg cs.toArray:=hO;simp only[V,cI]at hV;obtain⟨hlen,uZ⟩:=hV;have je:i.toNat < l.length:=au;obtain⟨hp,hle⟩:=M3 uZ je;have q2':P.cellsOf e=t.size:=q2;have q1':JH P e t.agg=aT:=q1;obtain⟨y',hr,hOy⟩:=wk (w:=w) q1' q2' wo hle;obtain⟨j,hj,_⟩:=xY q1';rw[<-UW je]at hp;refine fin y' ?_ (VS.of (by simpa only[V]using hp) hOy)
  rw[aLJ,hy];have sj:=run_sizeOf hj w;rw[<-mW hj,q2']at sj;simp[Instr.index,asIntOf,run_underlying hT,h3,sj,hr]
 ·rename_i st hl hT;rw[hl]at hx;obtain⟨h3,h4⟩:=bS.1 he;obtain rfl:=ay.1 h4;simp only[aW]at h3;have e1:=Gr hx;have je:i.toNat < st.data.toList.length:=by
   have:st.size=st.data.toList.length:=by rw[cR];rfl
   omega
  have aIO:st[i.toNat]? =ao (st.data.toList[i.toNat]):=by have hlt':i.toNat < st.size:=au;rw[getElem?_pos st i.toNat hlt'];rfl
  refine fin (.int .u8 ((st.data.toList.getD i.toNat 0).toNat:Int)) ?_ (lH _ _)
  rw[e1,hy];simp[Instr.index,asIntOf,run_underlying hT,h3.1,aIO,aI,bQ je]
 ·simp only[aw]at he
theorem aC8{E:Env}:∀(c:aD) (vs:List Value) (i:Nat) (v:aD),VC E c vs->c.list[i]? =ao v->∃y,vs[i]? =ao y/\VS E v y:=by
 intro c
 induction c with
 |cons x y _ ih=>
  intro vs i v hc hi;simp only[VC]at hc;obtain⟨u,vs',cs,rfl,hV,hO,hc⟩:=hc;cases i with
  |zero=>
   simp only[aD.list,fQ,az]at hi;subst hi;exact⟨u,rfl,VS.of hV hO⟩
  |succ i=>
   simp only[aD.list,lZ]at hi ⊢;exact ih vs' i v hc hi
 |_=>intro vs i v hc hi;simp[aD.list]at hi
theorem abd(h:Inv C g β s a w){x:bK}{i:Nat}(ho:o.op= .extract x i){v:aD}(he:(Out.opt ((s.ev x).list[i]?)).eval=ao v):fL P o a w (gT C (s.put o.dst v)):=by
 have hx:=h.ev x;have he:=jd.1 he;cases hc:s.ev x with
 |cons p q=>
  rw[hc]at hx he;obtain⟨vs,hy,hVC⟩:=hx;obtain⟨y,hv,hVS⟩:=aC8 _ vs i v hVC he;refine h.value hVS (eu (f:=Instr.extract (a.eval x) i) (by simp only[execOp,ho]) ?_);rw[hy];simp[Instr.extract,hv]
 |_=>rw[hc]at he;simp[aD.list]at he
theorem alI(h:Inv C g β s a w):∀(l:List bK),zd (rB s l)=aT->VC (s.env w g β) (rB s l) (l.map a.eval)
 |[],_=>by simp[rB,VC]
 |x::xs,hc=>by simp only[rB,zd,av]at hc;obtain⟨cs,hV,hO⟩:=(h.ev x).eQ hc.1;simp only[rB,VC,cr];exact⟨_,_,cs,rfl,hV,hO,alI h xs hc.2⟩
theorem Xv(h:Inv C g β s a w){f:fK}{first caps:Array bK}(ho:o.op= .makeFunc (.func f) first caps)(h1:first.isEmpty=aT)(h2:zd (rB s caps.toList)=aT):
  fL P o a w (gT C (s.put o.dst (.fn f (rB s caps.toList)))):=by
 have hf:first= #[]:=by simpa using h1
 refine h.value (x:= .func (.func f) #[] (caps.toList.map a.eval).toArray) ⟨_,?_,rfl⟩ (eu (f:=Instr.makeFunc (.func f) (first.map a.eval) (caps.map a.eval)) (by simp only[execOp,ho]) ?_)
 ·simp only[V];exact⟨_,rfl,alI h _ h2⟩
 ·subst hf;have:caps.map a.eval=(caps.toList.map a.eval).toArray:=by apply gg;simp
  simp[Instr.makeFunc,this]
theorem alp(h:Inv C g β s a w){T:TypeId}{x:bK}(ho:o.op= .sliceToArrayPointer T x){s':AS}(he:(Kg P s o.dst T (s.ev x)).eval=ao s'):fL P o a w (gT C s'):=by
 have hx:=h.ev x;unfold Kg at he;split at he
 ·rename_i n e hT;split at he
  ·rename_i t ht;obtain⟨h1,h2⟩:=aG.1 he;obtain⟨l,h3,h4⟩:=ax.1 h2;obtain⟨h5,h6⟩:=bS.1 h4;obtain rfl:=ay.1 h6;simp only[av,cv,dB,gh,aW]at h1 h5;obtain⟨⟨hz,hn⟩,aEh⟩:=h1;obtain⟨g1,i1,e1,t1,cs,hR,hO⟩:=z8 h hx h3;simp only[cI]at hR;obtain⟨ad,cap,vs,rfl,asq,qh,sJ,uZ⟩:=hR;have hO': [Value.slice ad (ag l) cap]=[a.eval x]:=hO;have hy:a.eval x= .slice ad (ag l) cap:=by simpa using hO'.symm
   have hlen:=bq.length (λc x hx=>cI.size hx) uZ;have h0:0 < vs.length:=by rw[hlen];exact Nat.mul_pos au au
   obtain⟨bb,off,e2,_⟩:=sJ 0 vs[0] (by simp[h0]);subst e2;refine .inl ⟨.pointer (ao ⟨bb,off,aJ⟩),w,?_,g1,β,i1.put o.dst ⟨_,?_,rfl⟩⟩
   ·refine eu (f:=Instr.arrayAt T (a.eval x)) (by simp only[execOp,ho]) ?_
    rw[hy];have:¬ag l < n:=au;simp[Instr.arrayAt,run_underlying hT,this]
   ·simp only[V];refine⟨bb,off,vs.take (n*t.size),rfl,λj u hj=> ?_,?_⟩
    ·rw[c9]at hj;split at hj
     ·exact sJ j u hj
     ·cases hj
    ·simp only[cI];exact⟨by simp;omega,bq.take (λ_ _ hx=>hx.size) n uZ⟩
  ·simp only[aw]at he
 ·simp only[aw]at he
end
end Go.Ab
namespace Go.Ab
theorem Ue{α:Type}{f:α->α->Bool}(hf:∀x y,f x y=aT->x=y):∀ {xs ys:List α},nb f xs ys=aT->xs=ys
 |[],[],_=>rfl
 |x::xs,y::ys,h=>by simp only[nb,av]at h;rw[hf _ _ h.1,Ue hf h.2]
 |[],_::_,h=>by simp[nb]at h
 |_::_,[],h=>by simp[nb]at h
theorem beq_eq:∀(t:Ty) (x y:t.den),t.comp=aT->t.beq x y=aT->x=y
 | .int _,x,y,_,h=>by simpa[Ty.beq]using h
 | .bool,x,y,_,h=>by simpa[Ty.beq]using h
 | .str,x,y,_,h=>by
  have h:(x:ByteArray).toList=(y:ByteArray).toList:=by simpa[Ty.beq]using h
  rw[Go.ByteArray.toList_eq,Go.ByteArray.toList_eq]at h;exact ByteArray.ext (Array.toList_inj.1 h)
 | .slice _,_,_,h,_=>by simp[Ty.comp]at h
 | .unit,_,_,_,_=>rfl
 | .pair a b,x,y,hc,h=>by simp only[Ty.comp,av]at hc;simp only[Ty.beq,av]at h;exact Prod.ext (beq_eq a _ _ hc.1 h.1) (beq_eq b _ _ hc.2 h.2)
 | .arr _ t,x,y,hc,h=>Ue (λx y=>beq_eq t x y hc) h
 | .gN t,x,y,_,h=> @of_decide_eq_true _ ((Ty.gN t).asn x y) h
theorem cI.abF{E:Env}{t:Ty}{cs:List Value}{x:(Ty.gN t).den}(h:cI E (.gN t) cs x):cs=[.pointer ((x:Option (Nat×t.den)).map λp=>⟨p.1,0,aJ⟩)]:=by
 simp only[cI]at h;cases hx:(x:Option (Nat×t.den)) with
 |none=>exact h.1 hx
 |some u=>
  obtain⟨_,_,_,e,_⟩:=h.2 u hx;exact e
def Plain(c:Value):Prop:=∀n,Instr.sameBits n c c=aT
theorem cI.plain{E:Env}:∀ {t:Ty} {cs:List Value} {x:t.den},t.comp=aT->cI E t cs x->∀c∈cs,Plain c
 | .int _,_,_,_,h,c,hc,n=>by simp only[cI]at h;rw[h,bw]at hc;subst hc;cases n <;> simp[Instr.sameBits]
 | .bool,_,_,_,h,c,hc,n=>by simp only[cI]at h;rw[h,bw]at hc;subst hc;cases n <;> simp[Instr.sameBits]
 | .str,_,_,_,h,c,hc,n=>by simp only[cI]at h;rw[h,bw]at hc;subst hc;cases n <;> exact(Go.MapKept.bytes_beq _ _).2 rfl
 | .slice _,_,_,hc,_,_,_,_=>by simp[Ty.comp]at hc
 | .unit,_,_,_,h,c,hc,_=>by simp only[cI]at h;rw[h]at hc;cases hc
 | .pair a b,_,_,hp,h,c,hc,n=>by
  simp only[Ty.comp,av]at hp;simp only[cI]at h;obtain⟨ca,cb,rfl,ha,hb⟩:=h;rcases bC.1 hc with hc | hc
  ·exact cI.plain hp.1 ha c hc n
  ·exact cI.plain hp.2 hb c hc n
 | .arr _ t,_,_,hp,h,c,hc,n=>by simp only[cI]at h;exact bq.all (p:=Plain) (λc x hx v hv=>cI.plain (t:=t) hp hx v hv) h.2 c hc n
 | .gN t,_,x,_,h,c,hc,n=>by rw[h.abF,bw]at hc;subst hc;cases n <;> simp[Instr.sameBits]
theorem cI.aDy{E:Env}:∀ {t:Ty} {cs cs':List Value} {x:t.den},t.comp=aT->cI E t cs x->cI E t cs' x->cs=cs'
 | .int _,_,_,_,_,h,h'=>by simp only[cI]at h h';rw[h,h']
 | .bool,_,_,_,_,h,h'=>by simp only[cI]at h h';rw[h,h']
 | .str,_,_,_,_,h,h'=>by simp only[cI]at h h';rw[h,h']
 | .slice _,_,_,_,hc,_,_=>by simp[Ty.comp]at hc
 | .unit,_,_,_,_,h,h'=>by simp only[cI]at h h';rw[h,h']
 | .pair a b,_,_,_,hp,h,h'=>by simp only[Ty.comp,av]at hp;simp only[cI]at h h';obtain⟨ca,cb,rfl,ha,hb⟩:=h;obtain⟨ca',cb',rfl,ha',hb'⟩:=h';rw[cI.aDy hp.1 ha ha',cI.aDy hp.2 hb hb']
 | .arr _ t,cs,cs',x,hp,h,h'=>by
  simp only[cI]at h h';have key:∀(l:List t.den) (cs cs':List Value),bq (cI E t) cs l->bq (cI E t) cs' l->cs=cs':=by
   intro l
   induction l with
   |nil=>intro cs cs' h h';have h:cs=[]:=h;have h':cs'=[]:=h';rw[h,h']
   |cons x l ih=>
    intro cs cs' h h';obtain⟨c,r,rfl,hx,hr⟩:=h;obtain⟨c',r',rfl,hx',hr'⟩:=h';rw[cI.aDy (t:=t) hp hx hx',ih _ _ hr hr']
  exact key _ _ _ h.2 h'.2
 | .gN t,_,_,_,_,h,h'=>by rw[h.abF,h'.abF]
theorem B7.aDy{E:Env}{t:Ty}{v v':Value}{x:t.den}(hc:t.comp=aT)(h:B7 E t v x)(h':B7 E t v' x):v=v':=by
 obtain⟨cs,h1,h2⟩:=h;obtain⟨cs',h1',h2'⟩:=h';have e:=cI.aDy hc h1 h1';subst e;unfold fR at h2 h2';cases ha:t.agg with
 |true=>rw[ha]at h2 h2';rw[h2,h2']
 |false=>
  rw[ha]at h2 h2';have h2:cs=[v]:=h2;have h2':cs=[v']:=h2';rw[h2]at h2';simpa using h2'
theorem B7.same{E:Env}{t:Ty}{v:Value}{x:t.den}(hc:t.comp=aT)(h:B7 E t v x):Instr.sameBits 10000 v v=aT:=by
 obtain⟨cs,h1,h2⟩:=h;have hp:=cI.plain hc h1;unfold fR at h2;cases ha:t.agg with
 |true=>
  rw[ha]at h2;have h2:v= .agg cs.toArray:=h2;subst h2;simp only[Instr.sameBits,beq_self_eq_true,cD,cS];intro p hp';obtain⟨a,b⟩:=p;have:∀(l:List Value),(a,b)∈l.zip l->a∈l/\a=b:=by
   intro l
   induction l with
   |nil=>intro h;simp at h
   |cons y l ih=>
    intro h;simp only[List.zip_cons_cons,cj,cK]at h;rcases h with⟨rfl,rfl⟩ | h
    ·exact⟨aK,rfl⟩
    ·exact⟨aL _ (ih h).1,(ih h).2⟩
  obtain⟨hm,rfl⟩:=this _ hp';exact hp a (by simpa using hm) _
 |false=>
  rw[ha]at h2;have h2:cs=[v]:=h2;subst h2;exact hp v (by simp) _
theorem arw{P:aM}{w:bW}{E:Env}{t:Ty}{v:Value}{x:t.den}(hc:t.comp=aT)(h:B7 E t v x):(Instr.keyThatStays v v).run P w= .ok v w:=by unfold Instr.keyThatStays;rw[if_pos (h.same hc)];rfl
section
variable {P:aM} {w:bW} {E:Env}
theorem zr:∀(n:Nat) (T:TypeId) (t:Ty),sh P n T t=aT->t.comp=aT
 | 0,T,t,h=>by simp[sh]at h
 |n+1,T,t,h=>by
  simp only[sh]at h;split at h
  ·rfl
  ·rfl
  ·rfl
  ·rfl
  ·rename_i m e m' t' hT;simp only[av]at h;exact zr n e t' h.2
  ·rename_i t0 _ _ fs hT;simp only[av]at h;have key:∀(fl:List Field) (t:Ty) (off:Nat),Jq P (sh P n) fl t off=aT->t.comp=aT:=by
    intro fl
    induction fl with
    |nil=>intro t off hc;cases t <;> first | rfl | (simp[Jq]at hc;done)
    |cons f fl ih=>
     intro t off hc;cases t <;> first | (simp[Jq]at hc;done) | skip
     rename_i ta tb;simp only[Jq,av]at hc;simp only[Ty.comp,av];exact⟨zr n _ _ hc.1.2,ih tb _ hc.2⟩
   exact key _ _ _ h.2
  ·cases h
theorem oA(em:Bool):∀(n:Nat) (T:TypeId) (t:Ty),sh P n T t=aT->∀(d:Nat),n<=d->∀(v:Value) (x:t.den),B7 E t v x->(Instr.checkKey em d T v).run P w= .ok () w
 | 0,T,t,h,_,_,_,_,_=>by simp[sh]at h
 |n+1,T,t,h,0,hd,_,_,_=>au
 |n+1,T,t,h,d+1,hd,v,x,⟨cs,hx,hv⟩=>by
  simp only[sh]at h;split at h
  ·rename_i hT;simp only[cI]at hx;have e1:cs=[v]:=hv;rw[hx]at e1;simp only[cz,eG]at e1;subst e1;simp[Instr.checkKey,run_underlying hT]
  ·rename_i hT;simp only[cI]at hx;have e1:cs=[v]:=hv;rw[hx]at e1;simp only[cz,eG]at e1;subst e1;simp[Instr.checkKey,run_underlying hT]
  ·rename_i hT;simp only[cI]at hx;have e1:cs=[v]:=hv;rw[hx]at e1;simp only[cz,eG]at e1;subst e1;simp[Instr.checkKey,run_underlying hT]
  ·rename_i U t' hT;simp only[cI]at hx;have e1:cs=[v]:=hv;subst e1;cases apC:(x:Option (Nat×t'.den)) with
   |none=>
    have e2:=hx.1 apC;simp only[cz,eG]at e2;subst e2;simp[Instr.checkKey,run_underlying hT]
   |some a=>
    obtain⟨_,_,_,e2,_⟩:=hx.2 a apC;simp only[cz,eG]at e2;subst e2;simp[Instr.checkKey,run_underlying hT]
  ·rename_i m e m' t' hT;simp only[av,dB]at h;obtain⟨⟨⟨⟨rfl,aEh⟩,sj⟩,Kv⟩,uZ⟩:=h;simp only[cI]at hx;obtain⟨aIZ,aIK⟩:=hx;have e1:v= .agg cs.toArray:=hv;subst e1;obtain⟨i,hi,afn⟩:=xY Kv;have hsz':=sj;rw[mW hi]at hsz';simp only[Instr.checkKey,cg,run_underlying hT,bH];simp only[Std.Legacy.Range.forIn_eq_forIn_range'];have hm:([:m]:Std.Legacy.Range).size=m:=by simp[Std.Legacy.Range.size]
   rw[hm];have ah6:∀c z,cI E t' c z->c.length=t'.size:=λc z hz=>hz.size
   have bx:t'.agg=aR->t'.size=1:=wo
   have key:∀(k:Nat) (x:List t'.den) (j:Nat),x.length=k->bq (cI E t') (cs.drop (j*t'.size)) x->
     (forIn (List.range' j k) () λi __s=>(do
      let __do_lift <-sizeOf e
      let __do_lift <-part e cs.toArray (i*__do_lift)
      Instr.checkKey em d e __do_lift
      pure (ForInStep.yield ()):Sem (ForInStep Unit))).run P w= .ok () w:=by
    intro k
    induction k with
    |zero=>intro x j _ _;rfl
    |succ k ih=>
     intro x j hx hcx';cases x with
     |nil=>simp at hx
     |cons x0 xs=>
      have gx:=bq.get ah6 hcx' 0 (by simp);simp only[mN,aQ,List.getElem_cons_zero]at gx;have lenx:((cs.drop (j*t'.size)).take t'.size).length=t'.size:=gx.size;have NK:t'.size≠0:=by simpa using aEh
      have aIV:j*t'.size+t'.size<=cs.length:=by simp only[cT,dx]at lenx;omega
      obtain⟨ux,h1,o1⟩:=wk (w:=w) Kv sj bx (cs:=cs) (off:=j*t'.size) aIV;have h3:=oA em n e t' uZ d au ux x0 ⟨_,gx,o1⟩;have nx:bq (cI E t') (cs.drop ((j+1)*t'.size)) xs:=by have:=bq.drop ah6 1 hcx';rw[gq]at this;simpa[eM]using this
      have:=ih xs (j+1) (by simpa using hx) nx;rw[List.range'_succ,List.forIn_cons];simp only[cg,run_sizeOf hi,hsz',h1,h3,bH,dY];exact this
   exact(bD (λr:Result Unit=>r.andThen λ_ w'=>Sem.run P (pure ()) w') (key m x 0 aIZ (by simpa using aIK))).trans rfl
  ·rename_i t0 _ _ fs hT;simp only[av,cv]at h;obtain⟨nQ,aDX⟩:=h;have Kv:t0.agg=aT:=by cases hl:fs.toList <;> rw[hl]at aDX <;> cases t0 <;> first | rfl | (simp[Jq]at aDX;done)
   rw[Kv]at hv;have e1:v= .agg cs.toArray:=hv;subst e1
   have key:∀(fl:List Field) (t:Ty) (off:Nat),Jq P (sh P n) fl t off=aT->∀(x:t.den),cI E t (cs.drop off) x->
     (forIn fl () λf __s=>(do
      if f.name≠ "_" then
       let __do_lift <-part f.type cs.toArray f.offset
       Instr.checkKey em d f.type __do_lift
       pure (ForInStep.yield ())
      else pure (ForInStep.yield ()):Sem (ForInStep Unit))).run P w= .ok () w:=by
    intro fl
    induction fl with
    |nil=>intro t off _ x _;rfl
    |cons f fl ih=>
     intro t off hc x hx;cases t <;> first | (simp[Jq]at hc;done) | skip
     rename_i ta tb;simp only[Jq,av,cv,dB,gh]at hc;obtain⟨⟨⟨⟨⟨⟨aI4,az9⟩,hz⟩,sj⟩,Kv⟩,uZ⟩,au5⟩:=hc;simp only[cI]at hx;obtain⟨xa,xb,ex,aGY,aJs⟩:=hx;have bx:ta.agg=aR->ta.size=1:=wo;have lx:xa.length=ta.size:=aGY.size;have sx1:(cs.drop off).take ta.size=xa:=by rw[ex];exact kJ lx
     have sx2:cs.drop (off+ta.size)=xb:=by rw[<-gq,ex];exact kI lx
     have sx3:off+ta.size<=cs.length:=by have:=bD ag ex;simp only[dx,ak]at this;omega
     obtain⟨ux,h1,o1⟩:=wk (w:=w) Kv sj bx (cs:=cs) (off:=off) sx3;rw[sx1]at o1;have h3:=oA em n f.type ta uZ d au ux x.1 ⟨_,aGY,o1⟩;have h4:=ih tb (off+ta.size) au5 x.2 (by rw[sx2];exact aJs);rw[List.forIn_cons];simp only[ne_eq,aI4,not_false_eq_true,cY,cg,az9,h1,h3,bH,dY];exact h4
   have:=key fs.toList t0 0 aDX x (by simpa using hx);simp only[Instr.checkKey,cg,run_underlying hT,bH,Array.forIn_toList]at this ⊢;exact(bD (λr:Result Unit=>r.andThen λ_ w'=>Sem.run P (pure ()) w') this).trans rfl
  ·cases h
theorem KB{K:TypeId}{kt vt:Ty}(hK:sh P depth K kt=aT){v:Value}{x:kt.den}(hx:B7 E kt v x)(hE:E.w=w):∀(es:List fN) (l:List (kt.den×vt.den)) (i:Nat),Alike (CW E kt vt) es l->
  ∃r,(Instr.findAsking K v es i).run P w= .ok r w/\match r with | none=>iQ kt x l=aJ | some (j,u)=>∃n e,iQ kt x l=ao n/\j=i+n/\es[n]? =ao e/\u=e.val
 |[],[],i,_=>⟨aJ,by simp[Instr.findAsking],rfl⟩
 |e::es,p::l,i,⟨he,hr⟩=>by
  have hx':=hx;obtain⟨c1,r1,o1⟩:=hx';obtain⟨c2,r2,o2⟩:=he.1;have heq:(Op.equal K v e.key).run P w= .ok (kt.beq x p.1) w:=uY E hE depth K kt hK 10000 eZ c1 c2 x p.1 v e.key r1 r2 o1 o2;cases hb:kt.beq x p.1 with
  |true=>
   rw[hb]at heq;refine⟨ao (i,e.val),by simp[Instr.findAsking,heq],0,e,by simp[iQ,hb],rfl,rfl,rfl⟩
  |false=>
   rw[hb]at heq;obtain⟨r,h1,h2⟩:=KB hK hx hE es l (i+1) hr;refine⟨r,by simp[Instr.findAsking,heq,h1],?_⟩;cases r with
   |none=>simp only at h2 ⊢;simp[iQ,hb,h2]
   |some u=>
    obtain⟨j,u⟩:=u;obtain⟨n,e',g1,g2,g3,g4⟩:=h2;exact⟨n+1,e',by simp[iQ,hb,g1],au,by simpa using g3,g4⟩
 |[],_::_,_,h=>h.elim
 |_::_,[],_,h=>h.elim
theorem Zv{d:TypeDesc}{kt vt:Ty}{v:Value}{x:kt.den}(hd:∀u y,B7 E kt u y->Instr.sameNow d v u=ao (kt.beq x y)):∀(es:List fN) (l:List (kt.den×vt.den)) (i:Nat),Alike (CW E kt vt) es l->
  ∃r,Instr.findNow d v es i=ao r/\match r with | none=>iQ kt x l=aJ | some (j,u)=>∃n e,iQ kt x l=ao n/\j=i+n/\es[n]? =ao e/\u=e.val
 |[],[],i,_=>⟨aJ,rfl,rfl⟩
 |e::es,p::l,i,⟨he,hr⟩=>by
  have h0:=hd e.key p.1 he.1;cases hb:kt.beq x p.1 with
  |true=>
   rw[hb]at h0;exact⟨ao (i,e.val),by simp[Instr.findNow,h0],0,e,by simp[iQ,hb],rfl,rfl,rfl⟩
  |false=>
   rw[hb]at h0;obtain⟨r,h1,h2⟩:=Zv hd es l (i+1) hr;refine⟨r,by simp[Instr.findNow,h0,h1],?_⟩;cases r with
   |none=>simp only at h2 ⊢;simp[iQ,hb,h2]
   |some u=>
    obtain⟨j,u⟩:=u;obtain⟨n,e',g1,g2,g3,g4⟩:=h2;exact⟨n+1,e',by simp[iQ,hb,g1],au,by simpa using g3,g4⟩
 |[],_::_,_,h=>h.elim
 |_::_,[],_,h=>h.elim
theorem Jx{K:TypeId}{kt vt:Ty}(hK:sh P depth K kt=aT){v:Value}{x:kt.den}(hx:B7 E kt v x)(hE:E.w=w){es:List fN}{l:List (kt.den×vt.den)}(h:Alike (CW E kt vt) es l):
  ∃r,(Instr.findKey K v es).run P w= .ok r w/\match r with | none=>iQ kt x l=aJ | some (j,u)=>∃e,iQ kt x l=ao j/\es[j]? =ao e/\u=e.val:=by
 have fin:∀r:Option (Nat×Value),(match r with | none=>iQ kt x l=aJ | some (j,u)=>∃n e,iQ kt x l=ao n/\j=0+n/\es[n]? =ao e/\u=e.val)->match r with | none=>iQ kt x l=aJ | some (j,u)=>∃e,iQ kt x l=ao j/\es[j]? =ao e/\u=e.val:=by
  intro r hr;cases r with
  |none=>exact hr
  |some u=>
   obtain⟨j,u⟩:=u;obtain⟨n,e,g1,g2,g3,g4⟩:=hr;obtain rfl:j=n:=au;exact⟨e,g1,g3,g4⟩
 have scalar:∀d,P.underlying K=ao d->(∀u y,B7 E kt u y->Instr.sameNow d v u=ao (kt.beq x y))->∃r,(Instr.findKey K v es).run P w= .ok r w/\match r with | none=>iQ kt x l=aJ | some (j,u)=>∃e,iQ kt x l=ao j/\es[j]? =ao e/\u=e.val:=by intro d hd hs;obtain⟨r,h1,h2⟩:=Zv hs es l 0 h;exact⟨r,by simp[Instr.findKey,run_underlying hd,h1],fin r h2⟩
 have agg:∀d,P.underlying K=ao d->(∀u y,B7 E kt u y->Instr.sameNow d v u=aJ)->∃r,(Instr.findKey K v es).run P w= .ok r w/\match r with | none=>iQ kt x l=aJ | some (j,u)=>∃e,iQ kt x l=ao j/\es[j]? =ao e/\u=e.val:=by
  intro d hd hs;cases es with
  |nil=>
   cases l with
   |nil=>exact⟨aJ,by simp[Instr.findKey,run_underlying hd,Instr.findNow],rfl⟩
   |cons _ _=>exact h.elim
  |cons e es=>
   cases l with
   |nil=>exact h.elim
   |cons p l=>
    have hn:Instr.findNow d v (e::es) 0=aJ:=by simp[Instr.findNow,hs e.key p.1 h.1.1]
    obtain⟨r,h1,h2⟩:=KB (w:=w) (vt:=vt) hK hx hE (e::es) (p::l) 0 h;exact⟨r,by simp[Instr.findKey,run_underlying hd,hn,h1],fin r h2⟩
 have hK0:=hK;unfold depth at hK0;simp only[sh]at hK0;obtain⟨cx,rx,ox⟩:=hx;split at hK0
 ·rename_i k k' hT;refine scalar _ hT λu y ⟨cy,ry,oy⟩=> ?_
  simp only[cI]at rx ry;have e1:cx=[v]:=ox;have e2:cy=[u]:=oy;rw[rx]at e1;rw[ry]at e2;simp only[cz,eG]at e1 e2;subst e1 e2;simp[Instr.sameNow,Ty.beq]
 ·rename_i hT;refine scalar _ hT λu y ⟨cy,ry,oy⟩=> ?_
  simp only[cI]at rx ry;have e1:cx=[v]:=ox;have e2:cy=[u]:=oy;rw[rx]at e1;rw[ry]at e2;simp only[cz,eG]at e1 e2;subst e1 e2;simp[Instr.sameNow,Ty.beq]
 ·rename_i hT;refine scalar _ hT λu y ⟨cy,ry,oy⟩=> ?_
  simp only[cI]at rx ry;have e1:cx=[v]:=ox;have e2:cy=[u]:=oy;rw[rx]at e1;rw[ry]at e2;simp only[cz,eG]at e1 e2;subst e1 e2;have hs:∀a b:ByteArray,(a==b)=(a.toList==b.toList):=λa b=>by
   by_cases ady:a=b
   ·subst ady;rw[(Go.MapKept.bytes_beq a a).2 rfl];simp
   ·have h1:(a==b)=aR:=by
     cases h:(a==b) with
     |false=>rfl
     |true=>exact absurd ((Go.MapKept.bytes_beq a b).1 h) ady
    have h2:(a.toList==b.toList)=aR:=by
     cases h:(a.toList==b.toList) with
     |false=>rfl
     |true=>exact absurd (beq_eq .str a b rfl h) ady
    rw[h1,h2]
  simp[Instr.sameNow,Ty.beq,hs]
 ·rename_i U t' hT;exact agg _ hT λu y _=>by simp[Instr.sameNow]
 ·rename_i m e m' t' hT;exact agg _ hT λu y _=>by simp[Instr.sameNow]
 ·rename_i t0 _ _ fs hT;exact agg _ hT λu y _=>by simp[Instr.sameNow]
 ·cases hK0
end
section
variable {α β:Type} {R:α->β->Prop}
theorem Alike.get:∀ {xs:List α} {ys:List β} {i:Nat} {x:α},Alike R xs ys->xs[i]? =ao x->∃y,ys[i]? =ao y/\R x y
 |[],_,_,_,_,h=>by simp at h
 |_::_,[],_,_,h,_=>h.elim
 |x::xs,y::ys,0,z,⟨h1,_⟩,h=>by simp at h;subst h;exact⟨y,rfl,h1⟩
 |x::xs,y::ys,i+1,z,⟨_,h2⟩,h=>by simp at h;simpa using Alike.get h2 h
theorem Alike.set{x:α}{y:β}(hx:R x y):∀ {xs:List α} {ys:List β} (i:Nat),Alike R xs ys->Alike R (xs.set i x) (ys.set i y)
 |[],[],_,_=>trivial
 |[],_::_,_,h=>h.elim
 |_::_,[],_,h=>h.elim
 |_::_,_::_,0,⟨_,h2⟩=>⟨hx,h2⟩
 |_::_,_::_,i+1,⟨h1,h2⟩=>⟨h1,Alike.set hx i h2⟩
theorem Alike.push{x:α}{y:β}(hx:R x y):∀ {xs:List α} {ys:List β},Alike R xs ys->Alike R (xs++ [x]) (ys++ [y])
 |[],[],_=>⟨hx,trivial⟩
 |[],_::_,h=>h.elim
 |_::_,[],h=>h.elim
 |_::_,_::_,⟨h1,h2⟩=>⟨h1,Alike.push hx h2⟩
theorem Alike.erase:∀ {xs:List α} {ys:List β} (i:Nat),Alike R xs ys->Alike R (xs.eraseIdx i) (ys.eraseIdx i)
 |[],[],_,_=>by simp[Alike]
 |[],_::_,_,h=>h.elim
 |_::_,[],_,h=>h.elim
 |_::_,_::_,0,⟨_,h2⟩=>h2
 |_::_,_::_,i+1,⟨h1,h2⟩=>⟨h1,Alike.erase i h2⟩
end
theorem L1{α:Type}{f:α->α->Bool}(hf:∀x,f x x=aT):∀xs:List α,nb f xs xs=aT
 |[]=>rfl
 |x::xs=>by simp[nb,hf x,L1 hf xs]
theorem beq_refl:∀(t:Ty) (x:t.den),t.comp=aT->t.beq x x=aT
 | .int _,x,_=>by simp[Ty.beq]
 | .bool,x,_=>by simp[Ty.beq]
 | .str,x,_=>by simp[Ty.beq]
 | .slice _,_,h=>by simp[Ty.comp]at h
 | .fS _,_,h | .od _,_,h=>by simp[Ty.comp]at h
 | .gN t,x,_=> @me _ ((Ty.gN t).asn x x) rfl
 | .unit,_,_=>rfl
 | .pair a b,x,h=>by simp only[Ty.comp,av]at h;simp only[Ty.beq,beq_refl a _ h.1,beq_refl b _ h.2,Bool.and_self]
 | .arr _ t,x,h=>by simp only[Ty.comp]at h;exact L1 (λy=>beq_refl t y h) x
section
variable {β:Type} {kt:Ty}
theorem uz{x:kt.den}:cd kt x ([]:List (kt.den×β))=aJ:=rfl
theorem eR{x:kt.den}{p:kt.den×β}{l:List (kt.den×β)}:cd kt x (p::l)=if kt.beq x p.1=aT then ao p.2 else cd kt x l:=by
 unfold cd;cases h:kt.beq x p.1 with
 |true=>simp[iQ,h]
 |false=>
  simp only[iQ,h];cases iQ kt x l <;> simp
theorem OE{x:kt.den}{v:β}:e7 kt x v []=[(x,v)]:=rfl
theorem zD{x:kt.den}{v:β}{p:kt.den×β}{l:List (kt.den×β)}:e7 kt x v (p::l)=if kt.beq x p.1=aT then(x,v)::l else p::e7 kt x v l:=by
 unfold e7;cases h:kt.beq x p.1 with
 |true=>simp[iQ,h]
 |false=>
  simp only[iQ,h];cases iQ kt x l <;> simp
theorem aqd{x:kt.den}:kg kt x ([]:List (kt.den×β))=[]:=rfl
theorem JP{x:kt.den}{p:kt.den×β}{l:List (kt.den×β)}:kg kt x (p::l)=if kt.beq x p.1=aT then l else p::kg kt x l:=by
 unfold kg;cases h:kt.beq x p.1 with
 |true=>simp[iQ,h]
 |false=>
  simp only[iQ,h];cases iQ kt x l <;> simp
theorem Hk{x:kt.den}{v:β}:∀l:List (kt.den×β),(e7 kt x v l).Perm ((x,v)::kg kt x l)
 |[]=>oo _
 |p::l=>by
  rw[zD,JP];split
  ·exact oo _
  ·exact((Hk l).cons p).trans (List.Perm.swap _ _ _)
theorem tx(hc:kt.comp=aT){x:kt.den}:∀ {l:List (kt.den×β)},(l.map (·.1)).Nodup->kg kt x l=l.filter λp=> !kt.beq x p.1
 |[],_=>rfl
 |p::l,hn=>by
  rw[cr,dm]at hn;rw[JP,List.filter_cons];by_cases h:kt.beq x p.1=aT
  ·rw[if_pos h];simp only[h,cG,bR,cF];have hx:=beq_eq kt _ _ hc h;exact(jt.2 λq hq=>by
    simp only[cv];rw[Bool.eq_false_iff];intro hb;have:=beq_eq kt _ _ hc hb;exact hn.1 (by rw[<-hx,this];exact dO.2 ⟨q,hq,rfl⟩)).symm
  ·have h':kt.beq x p.1=aR:=by simpa using h
   rw[if_neg h];simp only[h',eY,cY];rw[tx hc hn.2]
theorem mh(hc:kt.comp=aT){x:kt.den}{v:β}:∀ {l:List (kt.den×β)},(l.map (·.1)).Nodup->(cd kt x l=ao v↔(x,v)∈l)
 |[],_=>by simp[uz]
 |p::l,hn=>by
  rw[cr,dm]at hn;rw[eR,cj];by_cases h:kt.beq x p.1=aT
  ·rw[if_pos h];have hx:=beq_eq kt _ _ hc h;constructor
   ·intro e;left;rw[hx,<-aP e]
   ·rintro(e | e)
    ·rw[<-e]
    ·exact absurd (dO.2 ⟨_,e,rfl⟩) (by rw[<-hx]at hn;exact hn.1)
  ·rw[if_neg h,mh hc hn.2];constructor
   ·exact .inr
   ·rintro(e | e)
    ·exact absurd (by rw[<-e];exact beq_refl kt x hc) h
    ·exact e
theorem Uy(hc:kt.comp=aT){x:kt.den}{l l':List (kt.den×β)}(hn:(l.map (·.1)).Nodup)(hp:l'.Perm l):cd kt x l'=cd kt x l:=by apply Option.ext;intro v;rw[mh hc ((hp.map _).nodup_iff.2 hn),mh hc hn,hp.mem_iff]
theorem Ux(hc:kt.comp=aT){x:kt.den}{l l':List (kt.den×β)}(hn:(l.map (·.1)).Nodup)(hp:l'.Perm l):(kg kt x l').Perm (kg kt x l):=by rw[tx hc ((hp.map _).nodup_iff.2 hn),tx hc hn];exact hp.filter _
theorem ajW(hc:kt.comp=aT){x:kt.den}{v:β}{l l':List (kt.den×β)}(hn:(l.map (·.1)).Nodup)(hp:l'.Perm l):(e7 kt x v l').Perm (e7 kt x v l):=
 (Hk l').trans (((Ux hc hn hp).cons _).trans (Hk l).symm)
theorem FG(hc:kt.comp=aT){x:kt.den}{l:List (kt.den×β)}(hn:(l.map (·.1)).Nodup):((kg kt x l).map (·.1)).Nodup:=by rw[tx hc hn];exact hn.sublist (List.filter_sublist.map _)
theorem Qt(hc:kt.comp=aT){x:kt.den}{v:β}{l:List (kt.den×β)}(hn:(l.map (·.1)).Nodup):((e7 kt x v l).map (·.1)).Nodup:=by rw[((Hk l).map _).nodup_iff,cr,dm];refine⟨λh=> ?_,FG hc hn⟩;obtain⟨p,hp,he⟩:=dO.1 h;rw[tx hc hn,nv]at hp;have:=hp.2;have he:p.1=x:=he;rw[he,beq_refl kt x hc]at this;cases this
end
theorem J8{E:Env}:∀(v:aD) (t:Ty) (x:t.den) (cs:List Value),V E v cs->(qn t v).eval=ao x->cI E t cs x/\v.agg=t.agg/\v.eQ=aT
 | .d t' x',t,x,cs,hv,h=>by
  have h':(Out.opt (s9 t' t x')).eval=ao x:=by cases t <;> simpa only[qn]using h
  obtain⟨rfl,h'⟩:=jb (jd.1 h');simp only at h';subst h';simp only[V]at hv;exact⟨hv,rfl,rfl⟩
 | .dH,.slice t,x,cs,hv,h=>by simp only[qn,ay]at h;subst h;simp only[V]at hv;simp only[cI];exact⟨⟨aJ,0,[],by simpa using hv,by simp,by simp,λi v hh=>by simp at hh,rfl⟩,rfl,rfl⟩
 | .pr a b,.pair ta tb,x,cs,hv,h=>by simp only[qn]at h;obtain⟨x1,h1,h2⟩:=ax.1 h;obtain⟨x2,h3,h4⟩:=ax.1 h2;obtain rfl:=ay.1 h4;simp only[V]at hv;obtain⟨ca,cb,rfl,ha,hb⟩:=hv;simp only[cI];exact⟨⟨ca,cb,rfl,(J8 a ta x1 ca ha h1).1,(J8 b tb x2 cb hb h3).1⟩,rfl,rfl⟩
 | .dH,.int _,_,_,_,h | .dH,.bool,_,_,_,h | .dH,.str,_,_,_,h | .dH,.unit,_,_,_,h | .dH,.pair _ _,_,_,_,h | .dH,.arr _ _,_,_,_,h=>by simp only[qn,aw]at h
 | .pr _ _,.int _,_,_,_,h | .pr _ _,.bool,_,_,_,h | .pr _ _,.str,_,_,_,h | .pr _ _,.unit,_,_,_,h | .pr _ _,.slice _,_,_,_,h | .pr _ _,.arr _ _,_,_,_,h=>by simp only[qn,aw]at h
 | .undef,t,_,_,_,h | .gone,t,_,_,_,h | .kh,t,_,_,_,h | .vY,t,_,_,_,h | .yl ..,t,_,_,_,h | .By,t,_,_,_,h | .ptr ..,t,_,_,_,h | .eI ..,t,_,_,_,h | .b8 ..,t,_,_,_,h | .fn ..,t,_,_,_,h
 | .cons ..,t,_,_,_,h | .nil,t,_,_,_,h | .vec ..,t,_,_,_,h | .sb _,t,_,_,_,h | .bx ..,t,_,_,_,h | .cO ..,t,_,_,_,h | .mp ..,t,_,_,_,h | .qo ..,t,_,_,_,h | .yZ ..,t,_,_,_,h=>by cases t <;> simp only[qn,aw]at h
theorem XO{v:aD}{t:Ty}{x:t.den}(h:(qn t v).eval=ao x):v.eQ=aT:=by cases v <;> first | rfl | (cases t <;> simp only[qn,aw]at h)
theorem DQ{E:Env}{v:aD}{y:Value}(hv:VS E v y){t:Ty}{x:t.den}(h:(qn t v).eval=ao x):B7 E t y x:=by obtain⟨cs,h1,h2⟩:=hv.eQ (XO h);obtain⟨h3,h4,_⟩:=J8 v t x cs h1 h;exact⟨cs,h3,by rw[<-h4];exact h2⟩
theorem AL{P:aM}{T K V':TypeId}{kt vt:Ty}(h:mapOf P T=ao (K,V',kt,vt)):P.underlying T=ao (.map K V')/\sh P depth K kt=aT/\adt P V' (.d vt vt.zero)=aT:=by
 unfold mapOf at h;split at h
 ·rename_i K0 V0 hT;split at h
  ·split at h
   ·rename_i hc;simp only[az,cK]at h;obtain⟨rfl,rfl,rfl,rfl⟩:=h;rw[av]at hc;exact⟨hT,hc.1,hc.2⟩
   ·cases h
  ·cases h
 ·cases h
theorem PG{k v k' v':Ty}{l:List (k.den×v.den)}{l':List (k'.den×v'.den)}(h:aiO k v k' v' l=ao l'):∃(e1:k=k') (e2:v=v'),(e1▸e2▸l)=l':=by
 unfold aiO at h;split at h
 ·rename_i e;exact⟨e.1,e.2,by simpa using h⟩
 ·cases h
section
variable {P:aM} {C:Ctx} {g:Nat->lY} {β:Id->Option Pl} {s:AS} {a:Act} {w:bW} {o:Oper}
theorem yf(h:Inv C g β s a w){id:Id}{ver:Nat}{kt vt:Ty}{l:List (kt.den×vt.den)}(ho:(s.ql id ver kt vt).eval=ao l){y:Value}(hv:VS (s.env w g β) (.cO id ver) y):
  ∃fr pl es clock,s.bU id=ao (.obj ver fr (.mp kt vt l))/\β id=ao pl/\y= .map (ao pl.b)/\w.heap[pl.b]? =ao (.map es clock)/\g pl.b= .own (.id id) 0/\aaj (s.env w g β) kt vt es.toList l/\oh es.toList clock/\(l.map (·.1)).Nodup:=by
 unfold AS.ql at ho;split at ho
 ·rename_i v fr k' v' l' kA;obtain⟨ava,aI7⟩:=aG.1 ho;have ava:v=ver:=by simpa using ava
  obtain⟨rfl,rfl,rfl⟩:=PG (jd.1 aI7);subst ava;have cP:=dZ kA;obtain⟨pl,es,clock,h1,h2,h3,h4⟩:=h.bN id v fr _ cP;have hs:=hv.single rfl rfl;simp only[V]at hs;obtain⟨b,hb,_,hc⟩:=hs;obtain⟨pl',h5,h6⟩:=hc ⟨fr,_,cP⟩;have h1:β id=ao pl:=h1;have h5:β id=ao pl':=h5;rw[h1]at h5;obtain rfl:pl=pl':=by simpa using h5
  refine⟨fr,pl,es,clock,cP,h1,?_,h2,h3,h4.1.1,h4.2,h4.1.2⟩;have hb:y= .map (ao b):=by simpa using hb
  rw[hb,h6]
 ·simp only[aw]at ho
theorem abU(h:Inv C g β s a w){T:TypeId}(dj:o.op= .makeMap T aJ){s':AS}(he:(FD P s o.dst T).eval=ao s'):fL P o a w (gT C s'):=by
 unfold FD at he;split at he
 ·rename_i K V' kt vt q hm hd;obtain⟨hq,he⟩:=aG.1 he;obtain rfl:=ay.1 he;have ht:=Trans.alloc w g (.map #[] 0) (.own (.id (.new q 0)) 0);obtain⟨h1,h2⟩:=h.NV hq (c:= .mp kt vt []) (p:=ao ⟨w.heap.size,0⟩) ht (λb hb=>⟨qv w _ hb,fC _ _ _ au⟩) (λ_=>
   ⟨⟨w.heap.size,0⟩,#[],0,j7 _ _ _,sW w _,fH _ _ _,⟨⟨[],trivial,oo _⟩,gV⟩,oh.nil _⟩)
  refine .inl ⟨.map (ao w.heap.size),w.alloc (.map #[] 0),?_,_,_,h1.put o.dst (v:= .cO (.new q 0) 0) ⟨[.map (ao w.heap.size)],?_,rfl⟩⟩
  ·refine eu (f:=Instr.makeMap T aJ) (by simp only[execOp,dj];rfl) ?_
   simp[Instr.makeMap,run_newObj_alloc]
  ·simp only[V];exact⟨_,rfl,pI hq _ _ _ _,λ_=>⟨_,j7 _ _ _,rfl⟩⟩
 ·simp only[aw]at he
theorem B7.vs{E:Env}{t:Ty}{v:Value}{x:t.den}(h:B7 E t v x):VS E (.d t x) v:=by obtain⟨cs,h1,h2⟩:=h;exact⟨cs,by simpa only[V]using h1,h2⟩
theorem afW(h:Inv C g β s a w){T:TypeId}{x i:bK}{ok:Bool}(dj:o.op= .lookup T x i ok){v:aD}(he:(Dx P s T (s.ev x) (s.ev i) ok).eval=ao v):fL P o a w (gT C (s.put o.dst v)):=by
 unfold Dx at he;split at he
 ·rename_i K V' kt vt id ver hm hx;obtain⟨l,h1,he⟩:=ax.1 he;obtain⟨k,h2,he⟩:=ax.1 he;obtain rfl:=ay.1 he;obtain⟨hT,hK,hz⟩:=AL hm;have TS:=h.ev x;rw[hx]at TS;obtain⟨fr,pl,es,clock,g1,g2,g3,g4,g5,g6,g7,gn⟩:=yf h h1 TS;have H4:=zr depth K kt hK;obtain⟨l0,g6,gp⟩:=g6;rw[<-Uy H4 gn gp];clear gn h1;generalize l0=l at g6;have hk:=DQ (h.ev i) h2;have ayM:=oA (P:=P) (w:=w) es.isEmpty depth K kt hK 10000 eZ _ _ hk;obtain⟨r,hf,hr⟩:=Jx (P:=P) (w:=w) hK hk rfl g6;obtain⟨iz,zv,z1,z2,z3,z4⟩:=uO hz (s.env w g β);have apD:B7 (s.env w g β) vt zv vt.zero:=⟨_,by simpa only[V]using z3,z4⟩;have hzero:(zeroValue V').run P w= .ok zv w:=by simp[zeroValue,typeInfo,z1,z2]
  obtain⟨val,pK,zx⟩:∃val:Value×Bool,(Instr.lookup T (a.eval x) (a.eval i) ok).run P w= .ok (if ok then .tuple #[val.1,.bool val.2] else val.1) w/\B7 (s.env w g β) vt val.1 ((cd kt k l).getD vt.zero)/\val.2=(cd kt k l).isSome:=by
   cases r with
   |none=>
    simp only at hr;have hg:cd kt k l=aJ:=by simp[cd,hr]
    refine⟨(zv,aR),?_,by rw[hg];exact apD,by rw[hg];rfl⟩;simp[Instr.lookup,run_underlying hT,g3,Go.MapKept.run_getObj_map g4,ayM,hf,hzero]
   |some u=>
    obtain⟨j,u⟩:=u;obtain⟨e,m1,m2,rfl⟩:=hr;obtain⟨p,m3,m4⟩:=g6.get m2;have hg:cd kt k l=ao p.2:=by simp[cd,m1,m3]
    refine⟨(e.val,aT),?_,by rw[hg];exact m4.2,by rw[hg];rfl⟩;simp[Instr.lookup,run_underlying hT,g3,Go.MapKept.run_getObj_map g4,ayM,hf]
  refine h.value (x:=if ok then .tuple #[val.1,.bool val.2] else val.1) ?_ (eu (f:=Instr.lookup T (a.eval x) (a.eval i) ok) (by simp only[execOp,dj]) pK)
  unfold aCG;cases ok with
  |true=>
   obtain⟨cs,c1,c2⟩:=zx.1;refine⟨[val.1,.bool val.2],rfl,?_⟩;simp only[VC];refine⟨_,_,cs,rfl,by simpa only[V]using c1,c2,_,_,[.bool val.2],rfl,?_,rfl,rfl⟩;simp only[V,cI,zx.2]
  |false=>exact zx.1.vs
 ·simp only[aw]at he
theorem Inv.axO(h:Inv C g β s a w){id:Id}{ver:Nat}{fr:Bool}{kt vt:Ty}{l l':List (kt.den×vt.den)}{pl:Pl}{es es':Array fN}{clock clock':Nat}(cP:s.bU id=ao (.obj ver fr (.mp kt vt l)))(hp:β id=ao pl)
  (hb:w.heap[pl.b]? =ao (.map es clock)) (hg:g pl.b= .own (.id id) 0) (hr:aaj (s.env w g β) kt vt es'.toList l') (aCt:(l'.map (·.1)).Nodup) (aGe:oh es'.toList clock') (aEd:s.ua id=aT):
  Inv C g β (s.aZ id (.obj ver aR (.mp kt vt l'))) a {w with heap:=w.heap.setIfInBounds pl.b (.map es' clock')}:=by
 have je:pl.b < w.heap.size:=(bO.1 hb).1;have hother:∀b',b'≠pl.b->({w with heap:=w.heap.setIfInBounds pl.b (.map es' clock')}:bW).heap[b']? =w.heap[b']? :=λb' gj=>by
  show(w.heap.setIfInBounds pl.b _)[b']? =_
  rw[ek,if_neg (λe=>gj e.symm)]
 have ht:Trans w {w with heap:=w.heap.setIfInBounds pl.b (.map es' clock')} g g:=by
  refine⟨rfl,rfl,⟨rfl,aF _⟩,by simp,λb' _=> ?_⟩;by_cases he:b'=pl.b
  ·subst he;rw[hg];exact⟨.inr ⟨id,0,rfl,aF _⟩,λ_ _ hh=>au⟩
  ·rw[hother b' he];cases Rt:g b' with
   |free=>exact⟨rfl,rfl⟩
   |own o' k=>cases o' with
    |eL=>exact⟨rfl,rfl⟩
    |id i'=>exact⟨.inr ⟨i',k,rfl,aF _⟩,λoff v _ hv=>by simpa only[eN,hother b' he]using hv⟩
 have hle:cU (s.env w g β) ((s.aZ id (.obj ver aR (.mp kt vt l'))).env {w with heap:=w.heap.setIfInBounds pl.b (.map es' clock')} g β):=cU.aZ cP (aF _) ht (λ_ _=>rfl) (λ_=>rfl);refine h.step (dr _ _ _) ht hle (iN.aZ h.bN (by rw[cP];simp) hle (λ_ _=>rfl) (λi ver fr c pl2 hi TQ Rv=>⟨hother _ (h.apart hg hi TQ Rv),rfl⟩) ?_ (by obtain rfl:=Af cP aEd;exact L7 cP));refine⟨pl,es',clock',hp,?_,hg,⟨hr.mono hle.mem,aCt⟩,aGe⟩;show(w.heap.setIfInBounds pl.b _)[pl.b]? =_
 rw[ek,if_pos rfl,if_pos je]
theorem af3(h:Inv C g β s a w){T:TypeId}{m k x:bK}(dj:o.op= .mapUpdate T m k x){s':AS}(he:(DC P s T (s.ev m) (s.ev k) (s.ev x)).eval=ao s'):fL P o a w (gT C (s'.put o.dst .undef)):=by
 unfold DC at he;split at he
 ·rename_i K V' kt vt id ver hm hx;obtain⟨l,h1,he⟩:=ax.1 he;obtain⟨kx,h2,he⟩:=ax.1 he;obtain⟨vx,h3,he⟩:=ax.1 he;obtain⟨aEd,he⟩:=aG.1 he;obtain rfl:=ay.1 he;obtain⟨hT,hK,_⟩:=AL hm;have TS:=h.ev m;rw[hx]at TS;obtain⟨fr,pl,es,clock,g1,g2,g3,g4,g5,g6,g7,gn⟩:=yf h h1 TS;obtain⟨l0,g6,gp⟩:=g6;have hk:=DQ (h.ev k) h2;have hv:=DQ (h.ev x) h3;have ayM:=oA (P:=P) (w:=w) aR depth K kt hK 10000 eZ _ _ hk;obtain⟨r,hf,hr⟩:=Jx (P:=P) (w:=w) hK hk rfl g6;have H4:=zr depth K kt hK
  have fin:∀(es':Array fN) (clock':Nat),(Instr.mapUpdate T (a.eval m) (a.eval k) (a.eval x)).run P w= .ok () {w with heap:=w.heap.setIfInBounds pl.b (.map es' clock')}->Alike (CW (s.env w g β) kt vt) es'.toList (e7 kt kx vx l0)->oh es'.toList clock'->
    fL P o a w (gT C ((s.aZ id (.obj ver aR (.mp kt vt (e7 kt kx vx l)))).put o.dst .undef)):=λes' clock' pK auW aGe=>
   .inr (.inl ⟨_,YV (f:=Instr.mapUpdate T (a.eval m) (a.eval k) (a.eval x)) (by simp only[execOp,dj]) pK,g,β,(h.axO g1 g2 g4 g5 ⟨_,auW,ajW H4 gn gp⟩ (Qt H4 gn) aGe aEd).put o.dst VS.undef⟩)
  cases r with
  |none=>
   simp only at hr;refine fin (es.push {key:=a.eval k,val:=a.eval x,born:=clock}) (clock+1) ?_ ?_ (by rw[Array.toList_push];exact g7.push rfl)
   ·simp[Instr.mapUpdate,run_underlying hT,g3,Go.MapKept.run_getObj_map g4,ayM,hf,Go.MapKept.run_setObj_map _ g4]
   ·simp only[e7,hr,Array.toList_push];exact g6.push ⟨hk,hv⟩
  |some u=>
   obtain⟨j,u⟩:=u;obtain⟨e,m1,m2,rfl⟩:=hr;obtain⟨p,m3,m4⟩:=g6.get m2;have aIE:kt.beq kx p.1=aT:=by
    have:∀(l:List (kt.den×vt.den)) (j:Nat),iQ kt kx l=ao j->∀p,l[j]? =ao p->kt.beq kx p.1=aT:=by
     intro l
     induction l with
     |nil=>intro j hj;simp[iQ]at hj
     |cons q l ih=>
      intro j hj p hp;simp only[iQ]at hj;cases hb:kt.beq kx q.1 with
      |true=>
       rw[hb]at hj;simp only[az]at hj;subst hj;simp at hp;subst hp;exact hb
      |false=>
       rw[hb]at hj;simp only[dw]at hj;obtain⟨j',hj',rfl⟩:=hj;exact ih j' hj' p (by simpa using hp)
    exact this l0 j m1 p m3
   have apC:=beq_eq kt kx p.1 H4 aIE;have aIW:e.key=a.eval k:=B7.aDy H4 (apC▸m4.1) hk;have m2':es[j]? =ao e:=by simpa using m2
   refine fin (es.modify j λe=> {e with key:=a.eval k,val:=a.eval x}) clock ?_ ?_ (by rw[Array.toList_modify,Go.ChangeMaps.modify_eq_set _ _ _ _ m2];exact g7.set m2 rfl)
   ·simp[Instr.mapUpdate,run_underlying hT,g3,Go.MapKept.run_getObj_map g4,ayM,hf,m2',aIW,arw H4 hk,Go.MapKept.run_setObj_map _ g4]
   ·simp only[e7,m1,Array.toList_modify];rw[Go.ChangeMaps.modify_eq_set _ _ _ _ m2];exact Alike.set (R:=CW (s.env w g β) kt vt) ⟨hk,hv⟩ j g6
 ·simp only[aw]at he
end
end Go.Ab
end
