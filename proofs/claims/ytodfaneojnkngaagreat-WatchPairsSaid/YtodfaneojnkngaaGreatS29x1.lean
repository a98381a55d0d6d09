/-
  Made short by a program of mine (wip/tools/mini.py).
-/
import Derived.WalkKit
import Derived.KernelRfl
import Derived.OrdersIn
import Derived.LoopNIn
import Derived.TacticsIn
import Derived.RangeFuncCalls
import Derived.RangeFuncLeaves
import Derived.RangeFuncRecord
import Derived.MapKept
import Derived.ChangeMaps3
set_option linter.unusedVariables false
set_option linter.unusedSimpArgs false
set_option maxRecDepth 100000
set_option synthInstance.maxSize 5000
open Go renaming IntKind->lC,FuncId->fV,Operand->bU,Program->aT,World->cd,MapEntry->gB
open List renaming replicate->ab,set->gN,length->ag
open BitVec renaming ofInt->bo
open UInt8 renaming ofNat->fQ
open Nat renaming beq->ju
open Go.Value renaming oneCell'->dT
open Go.World renaming cell?->fq
open Go.Sem renaming run_bind->cC,run_pure->ez
open Go.Result renaming andThen_ok->bP
open Go.Addr renaming add_lit->fU
open Go.Op renaming equalIn->eI
open Option renaming some->av,none->aD
open Bool renaming true->aZ,false->aQ
noncomputable section
namespace Go.Ab
theorem ig:type_of% @Array.ext':= @Array.ext'
theorem tN:type_of% @Array.ext_getElem?:= @Array.ext_getElem?
theorem cX:type_of% @Array.getD_eq_getD_getElem?:= @Array.getD_eq_getD_getElem?
theorem lB:type_of% @Array.getElem?_append:= @Array.getElem?_append
theorem fR:type_of% @Array.getElem?_eq_getElem:= @Array.getElem?_eq_getElem
theorem bX:type_of% @Array.getElem?_eq_some_iff:= @Array.getElem?_eq_some_iff
theorem iq:type_of% @Array.getElem?_modify:= @Array.getElem?_modify
theorem eF:type_of% @Array.getElem?_setIfInBounds:= @Array.getElem?_setIfInBounds
theorem jv:type_of% @Array.getElem?_toList:= @Array.getElem?_toList
theorem c9:type_of% @Array.length_toList:= @Array.length_toList
theorem ct:type_of% @Array.toList_append:= @Array.toList_append
theorem jM:type_of% @BitVec.ofInt_natCast:= @BitVec.ofInt_natCast
theorem tO:type_of% @BitVec.toNat_ofInt:= @BitVec.toNat_ofInt
theorem kU:type_of% @BitVec.toNat_ofNat:= @BitVec.toNat_ofNat
theorem au:type_of% @Bool.and_eq_true:= @Bool.and_eq_true
theorem xA:type_of% @Bool.and_self:= @Bool.and_self
theorem jI:type_of% @Bool.eq_false_or_eq_true:= @Bool.eq_false_or_eq_true
theorem cY:type_of% @Bool.false_and:= @Bool.false_and
theorem bw:type_of% @Bool.false_eq_true:= @Bool.false_eq_true
theorem xB:type_of% @Bool.false_or:= @Bool.false_or
theorem cS:type_of% @Bool.not_eq_true':= @Bool.not_eq_true'
theorem fH:type_of% @Bool.not_false:= @Bool.not_false
theorem cQ:type_of% @Bool.not_true:= @Bool.not_true
theorem gR:type_of% @Bool.or_eq_true:= @Bool.or_eq_true
theorem bF:type_of% @Bool.true_and:= @Bool.true_and
theorem u7:type_of% @Int.add_emod:= @Int.add_emod
theorem qU:type_of% @Int.dvd_refl:= @Int.dvd_refl
theorem iH:type_of% @Int.emod_emod_of_dvd:= @Int.emod_emod_of_dvd
theorem fJ:type_of% @Int.emod_eq_of_lt:= @Int.emod_eq_of_lt
theorem kV:type_of% @Int.emod_lt_of_pos:= @Int.emod_lt_of_pos
theorem lM:type_of% @Int.emod_nonneg:= @Int.emod_nonneg
theorem kW:type_of% @Int.fdiv_eq_ediv_of_nonneg:= @Int.fdiv_eq_ediv_of_nonneg
theorem ji:type_of% @Int.le_refl:= @Int.le_refl
theorem sy:type_of% @Int.mul_assoc:= @Int.mul_assoc
theorem qV:type_of% @Int.mul_comm:= @Int.mul_comm
theorem ka:type_of% @Int.mul_emod:= @Int.mul_emod
theorem yy:type_of% @Int.mul_one:= @Int.mul_one
theorem qW:type_of% @Int.natCast_emod:= @Int.natCast_emod
theorem lN:type_of% @Int.natCast_mul:= @Int.natCast_mul
theorem iE:type_of% @Int.natCast_nonneg:= @Int.natCast_nonneg
theorem lO:type_of% @Int.natCast_pow:= @Int.natCast_pow
theorem gA:type_of% @Int.pow_succ:= @Int.pow_succ
theorem lW:type_of% @Int.pow_zero:= @Int.pow_zero
theorem qX:type_of% @Int.sub_zero:= @Int.sub_zero
theorem kX:type_of% @Int.tdiv_eq_ediv_of_nonneg:= @Int.tdiv_eq_ediv_of_nonneg
theorem iW:type_of% @Int.tmod_eq_emod_of_nonneg:= @Int.tmod_eq_emod_of_nonneg
theorem aa:type_of% @Int.toNat_natCast:= @Int.toNat_natCast
theorem bg:type_of% @Int.toNat_zero:= @Int.toNat_zero
theorem iX:type_of% @List.Perm.refl:= @List.Perm.refl
theorem fK:type_of% @List.all_cons:= @List.all_cons
theorem dp:type_of% @List.all_eq_true:= @List.all_eq_true
theorem sz:type_of% @List.any_cons:= @List.any_cons
theorem jW:type_of% @List.any_eq_false:= @List.any_eq_false
theorem aI:type_of% @List.append_assoc:= @List.append_assoc
theorem bm:type_of% @List.append_nil:= @List.append_nil
theorem dB:type_of% @List.cons.injEq:= @List.cons.injEq
theorem iI:type_of% @List.cons_append:= @List.cons_append
theorem kK:type_of% @List.drop_append:= @List.drop_append
theorem gJ:type_of% @List.drop_drop:= @List.drop_drop
theorem aq:type_of% @List.drop_eq_getElem_cons:= @List.drop_eq_getElem_cons
theorem lP:type_of% @List.drop_left':= @List.drop_left'
theorem aN:type_of% @List.drop_length:= @List.drop_length
theorem dS:type_of% @List.drop_of_length_le:= @List.drop_of_length_le
theorem u9:type_of% @List.drop_take:= @List.drop_take
theorem aG:type_of% @List.drop_zero:= @List.drop_zero
theorem bK:type_of% @List.eq_nil_of_length_eq_zero:= @List.eq_nil_of_length_eq_zero
theorem lY:type_of% @List.ext_getElem?:= @List.ext_getElem?
theorem je:type_of% @List.filter_eq_self:= @List.filter_eq_self
theorem dL:type_of% @List.flatMap_cons:= @List.flatMap_cons
theorem qY:type_of% @List.flatMap_nil:= @List.flatMap_nil
theorem jX:type_of% @List.flatten_cons:= @List.flatten_cons
theorem qZ:type_of% @List.flatten_nil:= @List.flatten_nil
theorem bz:type_of% @List.foldl_cons:= @List.foldl_cons
theorem de:type_of% @List.foldl_nil:= @List.foldl_nil
theorem sj:type_of% @List.getD_cons_succ:= @List.getD_cons_succ
theorem j6:type_of% @List.getD_cons_zero:= @List.getD_cons_zero
theorem aJ:type_of% @List.getD_eq_getElem?_getD:= @List.getD_eq_getElem?_getD
theorem fS:type_of% @List.getElem?_append_left:= @List.getElem?_append_left
theorem nq:type_of% @List.getElem?_cons_succ:= @List.getElem?_cons_succ
theorem gF:type_of% @List.getElem?_cons_zero:= @List.getElem?_cons_zero
theorem gK:type_of% @List.getElem?_drop:= @List.getElem?_drop
theorem cj:type_of% @List.getElem?_eq_getElem:= @List.getElem?_eq_getElem
theorem dY:type_of% @List.getElem?_eq_none:= @List.getElem?_eq_none
theorem dX:type_of% @List.getElem?_eq_some_iff:= @List.getElem?_eq_some_iff
theorem eW:type_of% @List.getElem?_map:= @List.getElem?_map
theorem eT:type_of% @List.getElem?_set_ne:= @List.getElem?_set_ne
theorem dD:type_of% @List.getElem?_take:= @List.getElem?_take
theorem aO:type_of% @List.getElem_mem:= @List.getElem_mem
theorem ai:type_of% @List.length_append:= @List.length_append
theorem aB:type_of% @List.length_cons:= @List.length_cons
theorem dG:type_of% @List.length_drop:= @List.length_drop
theorem cm:type_of% @List.length_map:= @List.length_map
theorem bl:type_of% @List.length_nil:= @List.length_nil
theorem cD:type_of% @List.length_replicate:= @List.length_replicate
theorem sZ:type_of% @List.length_set:= @List.length_set
theorem bB:type_of% @List.length_take:= @List.length_take
theorem s8:type_of% @List.map_append:= @List.map_append
theorem ij:type_of% @List.map_congr_left:= @List.map_congr_left
theorem bY:type_of% @List.map_cons:= @List.map_cons
theorem iY:type_of% @List.map_nil:= @List.map_nil
theorem bD:type_of% @List.mem_append:= @List.mem_append
theorem cv:type_of% @List.mem_cons:= @List.mem_cons
theorem aF:type_of% @List.mem_cons_of_mem:= @List.mem_cons_of_mem
theorem aK:type_of% @List.mem_cons_self:= @List.mem_cons_self
theorem oW:type_of% @List.mem_filter:= @List.mem_filter
theorem q9:type_of% @List.mem_flatMap:= @List.mem_flatMap
theorem lD:type_of% @List.mem_iff_getElem?:= @List.mem_iff_getElem?
theorem df:type_of% @List.mem_map:= @List.mem_map
theorem cZ:type_of% @List.mem_of_getElem?:= @List.mem_of_getElem?
theorem fO:type_of% @List.mem_of_mem_take:= @List.mem_of_mem_take
theorem ot:type_of% @List.mem_replicate:= @List.mem_replicate
theorem bp:type_of% @List.mem_singleton:= @List.mem_singleton
theorem aY:type_of% @List.nil_append:= @List.nil_append
theorem dm:type_of% @List.nodup_cons:= @List.nodup_cons
theorem gM:type_of% @List.nodup_nil:= @List.nodup_nil
theorem tP:type_of% @List.pairwise_cons:= @List.pairwise_cons
theorem iv:type_of% @List.set_getElem_self:= @List.set_getElem_self
theorem dv:type_of% @List.singleton_append:= @List.singleton_append
theorem iZ:type_of% @List.size_toArray:= @List.size_toArray
theorem ra:type_of% @List.take_append:= @List.take_append
theorem dH:type_of% @List.take_append_drop:= @List.take_append_drop
theorem fP:type_of% @List.take_append_of_le_length:= @List.take_append_of_le_length
theorem lQ:type_of% @List.take_left':= @List.take_left'
theorem bQ:type_of% @List.take_length:= @List.take_length
theorem bk:type_of% @List.take_of_length_le:= @List.take_of_length_le
theorem ja:type_of% @List.take_succ_eq_append_getElem:= @List.take_succ_eq_append_getElem
theorem fp:type_of% @List.take_take:= @List.take_take
theorem dZ:type_of% @List.take_zero:= @List.take_zero
theorem fy:type_of% @Nat.add_assoc:= @Nat.add_assoc
theorem fe:type_of% @Nat.add_mul:= @Nat.add_mul
theorem jC:type_of% @Nat.add_sub_cancel:= @Nat.add_sub_cancel
theorem cK:type_of% @Nat.add_zero:= @Nat.add_zero
theorem fE:type_of% @Nat.eq_of_beq_eq_true:= @Nat.eq_of_beq_eq_true
theorem jD:type_of% @Nat.eq_zero_or_pos:= @Nat.eq_zero_or_pos
theorem rb:type_of% @Nat.le_add_right:= @Nat.le_add_right
theorem ea:type_of% @Nat.le_of_ble_eq_true:= @Nat.le_of_ble_eq_true
theorem re:type_of% @Nat.le_of_eq:= @Nat.le_of_eq
theorem ay:type_of% @Nat.le_refl:= @Nat.le_refl
theorem pQ:type_of% @Nat.le_succ:= @Nat.le_succ
theorem jb:type_of% @Nat.le_trans:= @Nat.le_trans
theorem iV:type_of% @Nat.lt_irrefl:= @Nat.lt_irrefl
theorem rh:type_of% @Nat.lt_or_ge:= @Nat.lt_or_ge
theorem eH:type_of% @Nat.min_eq_left:= @Nat.min_eq_left
theorem kM:type_of% @Nat.mod_eq_of_lt:= @Nat.mod_eq_of_lt
theorem ri:type_of% @Nat.mul_comm:= @Nat.mul_comm
theorem di:type_of% @Nat.mul_le_mul_right:= @Nat.mul_le_mul_right
theorem lZ:type_of% @Nat.mul_mod:= @Nat.mul_mod
theorem iJ:type_of% @Nat.mul_one:= @Nat.mul_one
theorem jj:type_of% @Nat.one_mul:= @Nat.one_mul
theorem pR:type_of% @Nat.pow_add:= @Nat.pow_add
theorem lE:type_of% @Nat.sub_eq_zero_of_le:= @Nat.sub_eq_zero_of_le
theorem aR:type_of% @Nat.zero_add:= @Nat.zero_add
theorem aP:type_of% @Nat.zero_le:= @Nat.zero_le
theorem ou:type_of% @Nat.zero_mul:= @Nat.zero_mul
theorem eo:type_of% @Option.getD_some:= @Option.getD_some
theorem bR:type_of% @Option.isSome_iff_exists:= @Option.isSome_iff_exists
theorem dx:type_of% @Option.map_eq_some_iff:= @Option.map_eq_some_iff
theorem eJ:type_of% @Option.map_some:= @Option.map_some
theorem bn:type_of% @Option.some.inj:= @Option.some.inj
theorem aA:type_of% @Option.some.injEq:= @Option.some.injEq
theorem cT:type_of% @Prod.mk.injEq:= @Prod.mk.injEq
theorem sk:type_of% @Quotient.exists_rep:= @Quotient.exists_rep
theorem kN:type_of% @Sum.getLeft?_inl:= @Sum.getLeft?_inl
theorem cW:type_of% @Sum.getRight?_inr:= @Sum.getRight?_inr
theorem nu:type_of% @Sum.isLeft_inl:= @Sum.isLeft_inl
theorem dJ:type_of% @Sum.isLeft_inr:= @Sum.isLeft_inr
theorem jO:type_of% @and_self:= @and_self
theorem jw:type_of% @and_true:= @and_true
theorem ik:type_of% @beq_eq_false_iff_ne:= @beq_eq_false_iff_ne
theorem dK:type_of% @beq_iff_eq:= @beq_iff_eq
theorem bu:type_of% @congrArg:= @congrArg
theorem iC:type_of% @decide_eq_false:= @decide_eq_false
theorem iL:type_of% @decide_eq_false_iff_not:= @decide_eq_false_iff_not
theorem eO:type_of% @decide_eq_true:= @decide_eq_true
theorem bf:type_of% @decide_eq_true_eq:= @decide_eq_true_eq
theorem cO:type_of% @decide_true:= @decide_true
theorem Dp:type_of% @dif_neg:= @dif_neg
theorem Ao:type_of% @dif_pos:= @dif_pos
theorem ml:type_of% @getElem!_pos:= @getElem!_pos
theorem bA:type_of% @if_false:= @if_false
theorem bM:type_of% @if_true:= @if_true
theorem nL:type_of% @true_and:= @true_and
end Go.Ab
namespace Go.Ab
theorem fg{p:Prop}(h:p:=by decide):p:=h
theorem ak{p:Prop}(h:p:=by omega):p:=h
theorem cr{p:Prop}(h:p:=by kernel_rfl):p:=h
inductive Ty where
 |int (k:lC) | bool | str | slice (t:Ty) | unit | pair (a b:Ty) | arr (n:Nat) (t:Ty)
 |iT (t:Ty)
 |vC (t:Ty)
 deriving DecidableEq,Inhabited
@[reducible] def Ty.den:Ty->Type
 | .int _=>Int
 | .bool=>Bool
 | .str=>ByteArray
 | .slice t=>List t.den
 | .unit=>Unit
 | .pair a b=>a.den×b.den
 | .arr _ t=>List t.den
 | .iT t=>Option (List t.den)
 | .vC t=>Option t.den
def Ty.size:Ty->Nat
 | .unit=>0
 | .pair a b=>a.size+b.size
 | .arr n t=>n*t.size
 | .int _ | .bool | .str | .slice _ | .iT _ | .vC _=>1
def Ty.agg:Ty->Bool
 | .unit | .pair _ _ | .arr _ _=>aZ
 | .int _ | .bool | .str | .slice _ | .iT _ | .vC _=>aQ
def Ty.zero:(t:Ty)->t.den
 | .int _=>(0:Int)
 | .bool=>aQ
 | .str=>ByteArray.empty
 | .slice _=> []
 | .unit=>()
 | .pair a b=>(a.zero,b.zero)
 | .arr n t=>ab n t.zero
 | .iT _=>aD
 | .vC _=>aD
def Ty.comp:Ty->Bool
 | .slice _ | .iT _ | .vC _=>aQ
 | .pair a b=>a.comp && b.comp
 | .arr _ t=>t.comp
 | .int _ | .bool | .str | .unit=>aZ
def ni{α:Type}(f:α->α->Bool):List α->List α->Bool
 |[],[]=>aZ
 |x::xs,y::ys=>f x y && ni f xs ys
 |_,_=>aQ
def Ty.beq:(t:Ty)->t.den->t.den->Bool
 | .int _,x,y=>(x:Int)==y
 | .bool,x,y=>(x:Bool)==y
 | .str,x,y=>(x:ByteArray).toList==(y:ByteArray).toList
 | .slice t,x,y=>ni t.beq x y
 | .unit,_,_=>aZ
 | .pair a b,x,y=>a.beq x.1 y.1 && b.beq x.2 y.2
 | .arr _ t,x,y=>ni t.beq x y
 | .iT t,x,y=>ni t.beq (x.getD []) (y.getD [])
 | .vC _,_,_=>aQ
def wZ(t t':Ty)(x:t.den):Option t'.den:=if h:t=t' then av (h▸x) else aD
def afR:(a b:Ty)->Option (a.den->b.den)
 | .iT t,.slice t'=>if h:t=t' then av λo=>cast (bu (λt:Ty=>List t.den) h) (o.getD []) else aD
 | .slice t,.iT t'=>if h:t=t' then av λl=>av (cast (bu (λt:Ty=>List t.den) h) l) else aD
 | .pair a b,.pair c d=>match afR a c,afR b d with
  |some f,av k=>av λx=>(f x.1,k x.2)
  |_,_=>aD
 | .slice a,.slice b=>match afR a b with
  |some f=>av (List.map f)
  |none=>aD
 |a,b=>if h:a=b then av (cast (bu Ty.den h)) else aD
def aSF(a b:Ty)(x:a.den):b.den:=match afR a b with | some f=>f x | none=>b.zero
def JB(t t':Ty)(x:t.den):Option t'.den:=
 match wZ t t' x with
 |some y=>av y
 |none=>match afR t t' with
  |some f=>av (f x)
  |none=>aD
def nth(t:Ty)(l:List t.den)(i:Nat):t.den:=l.getD i t.zero
inductive Id where
 |bt (k:Nat)
 |new (site j:Nat)
 deriving DecidableEq,Inhabited
inductive MK where
 |fst | snd
 |idx (i:Nat)
 |arr
structure wV where
 y:Nat
 ps:Array Tmp
 as:Code
 b:Code
inductive aC where
 |undef
 |gone
 |dy | sq | yP | EB
 |d (t:Ty) (x:t.den)
 |pr (a b:aC)
 |ptr (id:Id) (ver:Nat) (p:List MK) (n:Nat)
 |dV (t:Ty) (x:t.den)
 |bE (id:Id) (ver:Nat) (p:List MK) (c i len:Nat)
 |fn (f:fV) (caps:aC)
 |cons (a b:aC)
 |nil
 |vec (e:TypeId) (t:Ty) (l:List t.den)
 |sb (l:List Int)
 |bx (e:TypeId) (z:Nat) (c:aC)
 |cI (id:Id) (ver:Nat)
 |mp (k v:Ty) (l:List (k.den×v.den))
 |uE (q:Id) (ver:Nat) (k v:Ty) (rest:List (k.den×v.den)) (cur:Option (k.den×v.den))
 |yl (id:Id) (ver:Nat)
 |sS (c:wV) (frame:aC) (p:Nat)
inductive dW where
 |dead
 |obj (ver:Nat) (fr:Bool) (c:aC)
def bV(c:aC):dW:= .obj 0 aQ c
def ed(c:aC):List dW:=[.obj 0 aQ c]
def fx(q:Nat):aC:= .ptr (.new q 0) 0 [] 0
def pc(q n:Nat):aC:= .bE (.new q 0) 0 [] 0 0 n
def gg:aC:= .d .unit ()
def bH:aC:= .undef
structure AS where
 cM:List aC
 cz:List dW
 news:List (List dW)
def aS(n:Nat)(l:List aC):List aC:=ab n .undef++l
def bS(n:Nat)(l:List (List dW)):List (List dW):=ab n []++l
inductive Out(α:Type):Type 1 where
 |ok (a:α)
 |fail
 |wI (c:Bool) (r:Out α)
 |get {β:Type} (x:Option β) (f:β->Out α)
 |br (c:Bool) (a b:Out α)
def Out.eval{α:Type}:Out α->Option α
 | .ok a=>av a
 | .fail=>aD
 | .wI c r=>match c with | true=>r.eval | false=>aD
 | .get x f=>match x with | some y=>(f y).eval | none=>aD
 | .br c a b=>match c with | true=>a.eval | false=>b.eval
def aL{α:Type}(c:Bool)(x y:Option α):Option α:=match c with | true=>x | false=>y
def al{α β:Type}(x:Option α)(f:α->Option β):Option β:=match x with | some a=>f a | none=>aD
def Out.run{α R:Type}:Out α->(α->Option R)->Option R
 | .ok a,k=>k a
 | .fail,_=>aD
 | .wI c r,k=>aL c (r.run k) aD
 | .get x f,k=>al x λy=>(f y).run k
 | .br c a b,k=>aL c (a.run k) (b.run k)
def Out.bind{α β:Type}:Out α->(α->Out β)->Out β
 | .ok a,f=>f a
 | .fail,_=> .fail
 | .wI c r,f=> .wI c (r.bind f)
 | .get x g,f=> .get x λy=>(g y).bind f
 | .br c a b,f=> .br c (a.bind f) (b.bind f)
def Out.opt{α:Type}:Option α->Out α
 |some a=> .ok a
 |none=> .fail
def Out.guard{α:Type}(c:Bool)(r:Out α):Out α:=match c with | true=>r | false=> .fail
def aC.size:aC->Nat
 | .d t _=>t.size
 | .pr a b=>a.size+b.size
 |_=>1
def aC.agg:aC->Bool
 | .d t _=>t.agg
 | .pr _ _=>aZ
 |_=>aQ
def aC.fA:aC->Bool
 | .undef | .cons _ _ | .nil | .vec .. | .bx .. | .mp .. | .uE .. | .sS .. =>aQ
 |_=>aZ
def aC.strip:aC->aC
 | .bx _ _ c=>c
 |c=>c
def aC.wrap:aC->aC->aC
 | .bx e z _,c=> .bx e z c
 |_,c=>c
def SH:aC->aC->aC
 | .d a x,.d b y=> .d (.pair a b) (x,y)
 |a,b=> .pr a b
def ofConst:Value->aC
 | .bool b=> .d .bool b
 | .int k n=> .d (.int k) n
 | .string s=> .d .str s
 | .slice aD 0 0=> .dy
 | .pointer aD=> .sq
 | .nilFunc=> .yP
 | .map aD=> .EB
 |_=> .undef
def AS.slot(s:AS)(i:Nat):aC:=s.cM.getD i .undef
def AS.ev(s:AS):bU->aC
 | .tmp t=>s.slot t
 | .const v=>ofConst v
 | .func f=> .fn f .nil
 | .global _=> .undef
def AS.put(s:AS)(dst:Option Tmp)(v:aC):AS:=
 match dst with
 |some t=> {s with cM:=s.cM.set t v}
 |none=>s
def AS.cq(s:AS):Id->Option dW
 | .bt k=>s.cz[k]?
 | .new i j=>(s.news.getD i [])[j]?
def AS.bq(s:AS)(id:Id)(e:dW):AS:=
 match id with
 | .bt k=> {s with cz:=s.cz.set k e}
 | .new i j=> {s with news:=s.news.set i ((s.news.getD i []).set j e)}
def AS.eS(s:AS)(i:Nat):Bool:=match s.news[i]? with | some []=>aZ | _=>aQ
def AS.born(s:AS)(i:Nat)(es:List dW):AS:= {s with news:=s.news.set i es}
def AS.obj(s:AS)(id:Id):Option (Nat×Bool×aC):=
 match s.cq id with
 |some (.obj v f c)=>av (v,f,c)
 |_=>aD
def aff(P:aT)(nl:Bool):Nat->TypeId->Option Ty
 | 0,_=>aD
 |n+1,T=>
  match P.underlying T with
  |some (.int k)=>av (.int k)
  |some .bool=>av .bool
  |some .string=>av .str
  |some (.slice e)=>match aff P aQ n e with | some t=>av (match nl with | true=> .iT t | false=> .slice t) | none=>aD
  |some (.array k e)=>match aff P nl n e with | some t=>av (.arr k t) | none=>aD
  |some (.pointer e)=>match aff P aQ n e with | some t=>av (.vC t) | none=>aD
  |some (.struct fs)=>fs.toList.foldr (λf acc=>match aff P nl n f.type,acc with | some a,av b=>av (.pair a b) | _,_=>aD) (av .unit)
  |_=>aD
def ar0(P:aT):Nat->TypeId->Option Ty:=aff P aQ
def zeroOf(P:aT):Nat->TypeId->Option aC
 | 0,_=>aD
 |n+1,T=>
  match P.underlying T with
  |some (.int k)=>av (.d (.int k) (0:Int))
  |some .bool=>av (.d .bool aQ)
  |some .string=>av (.d .str ByteArray.empty)
  |some (.slice _)=>av .dy
  |some (.pointer _)=>av .sq
  |some (.map _ _)=>av .EB
  |some (.func _ _ _)=>av .yP
  |some (.array k e)=>match ar0 P n e with | some t=>av (.d (.arr k t) (ab k t.zero)) | none=>aD
  |some (.struct fs)=>fs.toList.foldr (λf acc=>match zeroOf P n f.type,acc with | some a,av b=>av (SH a b) | _,_=>aD) (av (.d .unit ()))
  |_=>aD
def depth:Nat:=12
def fits(P:aT)(T:TypeId)(v:aC):Bool:=
 v.fA && (P.cellsOf T==v.size) &&
 (match P.underlying T with | some (.struct _)=>v.agg | some (.array _ _)=>v.agg | some _=> !v.agg | none=>aQ)
def pn:Nat->List MK
 | 0=> [.fst]
 |n+1=> .snd::pn n
def loc:aC->List MK->Out (Nat×aC)
 |c,[]=> .ok (0,c)
 |c,.arr::p=>loc c p
 | .pr a _,.fst::p=>loc a p
 | .pr a b,.snd::p=>(loc b p).bind λ(n,v)=> .ok (a.size+n,v)
 | .d (.pair a _) x,.fst::p=>loc (.d a x.1) p
 | .d (.pair a b) x,.snd::p=>(loc (.d b x.2) p).bind λ(n,v)=> .ok (a.size+n,v)
 | .d (.arr _ t) l,.idx i::p=> .wI (decide (i < (l:List t.den).length)) ((loc (.d t (nth t l i)) p).bind λ(n,v)=> .ok (i*t.size+n,v))
 | .vec _ t l,.idx i::p=> .wI (decide (i < l.length)) ((loc (.d t (nth t l i)) p).bind λ(n,v)=> .ok (i*t.size+n,v))
 |_,_::_=> .fail
def zH:aC->List MK->aC->Out aC
 |c,.arr::p,v=>zH c p v
 | .vec ..,[],_=> .fail
 | .mp ..,[],_=> .fail
 | .uE ..,[],_=> .fail
 | .sS ..,[],_=> .fail
 |c,[],v=> .guard (v.fA && (c.size==v.size)) (.ok v)
 | .pr a b,.fst::p,v=>(zH a p v).bind λa'=> .ok (SH a' b)
 | .pr a b,.snd::p,v=>(zH b p v).bind λb'=> .ok (SH a b')
 | .d (.pair a b) x,.fst::p,v=>(zH (.d a x.1) p v).bind λa'=> .ok (SH a' (.d b x.2))
 | .d (.pair a b) x,.snd::p,v=>(zH (.d b x.2) p v).bind λb'=> .ok (SH (.d a x.1) b')
 | .d (.arr n t) l,.idx i::p,v=> .wI (decide (i < (l:List t.den).length)) ((zH (.d t (nth t l i)) p v).bind fun
   | .d t' y=>(Out.opt (wZ t' t y)).bind λy=> .ok (.d (.arr n t) ((l:List t.den).set i y))
   |_=> .fail)
 | .vec e t l,.idx i::p,v=> .wI (decide (i < l.length)) ((zH (.d t (nth t l i)) p v).bind fun
   | .d t' y=>(Out.opt (wZ t' t y)).bind λy=> .ok (.vec e t (l.set i y))
   |_=> .fail)
 |_,_::_,_=> .fail
def AS.row(s:AS)(id:Id)(ver:Nat)(p:List MK):Out (Nat×(t:Ty)×List t.den):=
 match s.obj id with
 |some (v,_,c)=> .guard (v==ver) ((loc c.strip p).bind fun
  | (n,.d (.arr _ t) l)=> .ok (n,⟨t,l⟩)
  | (n,.vec _ t l)=> .ok (n,⟨t,l⟩)
  |_=> .fail)
 |none=> .fail
def cut{α:Type}(l:List α)(i len:Nat):List α:=(l.drop i).take len
def AS.jT(s:AS):(t:Ty)->aC->Out t.den
 |t,.d t' x=>Out.opt (JB t' t x)
 | .slice _,.dy=> .ok []
 | .iT _,.dy=> .ok aD
 | .slice t,.bE id ver p c i len=>(s.row id ver p).bind λr=> .wI (decide (r.1+i*r.2.1.size=c/\i+len<=r.2.2.length)) (Out.opt (JB (.slice r.2.1) (.slice t) (cut r.2.2 i len)))
 | .iT t,.bE id ver p c i len=>(s.row id ver p).bind λr=> .wI (decide (r.1+i*r.2.1.size=c/\i+len<=r.2.2.length)) (Out.opt (JB (.slice r.2.1) (.iT t) (cut r.2.2 i len)))
 | .pair a b,.pr x y=>(s.jT a x).bind λx=>(s.jT b y).bind λy=> .ok (x,y)
 |_,_=> .fail
def aC.shared:aC->List Id
 | .bE id _ _ _ _ _=> [id]
 | .pr a b=>a.shared++b.shared
 |_=> []
def AS.freeze(s:AS)(id:Id):AS:=
 match s.cq id with
 |some (.obj v _ c)=>s.bq id (.obj v aZ c)
 |_=>s
def AS.bG(s:AS):List Id->AS
 |[]=>s
 |id::ids=>(s.freeze id).bG ids
end Go.Ab
namespace Go.Ab
def aGz{α:Type}(f:α->List Value->Option (List Value)):List α->List Value->Option (List Value)
 |[],cs=>av cs
 |x::xs,cs=>match f x cs with | some r=>aGz f xs r | none=>aD
def Ar:(t:Ty)->t.den->List Value->Option (List Value)
 | .int k,x,.int k' n::r=>match decide (k=k'),decide (n=(x:Int)) with | true,aZ=>av r | _,_=>aD
 | .bool,x,.bool b::r=>match decide (b=(x:Bool)) with | true=>av r | false=>aD
 | .str,x,.string s::r=>match decide (s=(x:ByteArray)) with | true=>av r | false=>aD
 | .slice _,[],.slice aD 0 0::r=>av r
 | .iT _,aD,.slice aD 0 0::r=>av r
 | .vC _,aD,.pointer aD::r=>av r
 | .unit,_,r=>av r
 | .pair a b,x,r=>match Ar a x.1 r with | some r'=>Ar b x.2 r' | none=>aD
 | .arr n t,l,r=>match decide ((l:List t.den).length=n) with | true=>aGz (Ar t) l r | false=>aD
 |_,_,_=>aD
def YS:aC->List Value->Option (List Value)
 | .d t x,r=>Ar t x r
 | .dy,.slice aD 0 0::r=>av r
 | .sq,.pointer aD::r=>av r
 | .yP,.nilFunc::r=>av r
 | .EB,.map aD::r=>av r
 | .pr a b,r=>match YS a r with | some r'=>YS b r' | none=>aD
 |_,_=>aD
def uf:Value->Bool | .agg _=>aZ | _=>aQ
def am0(P:aT)(T:TypeId)(z:aC):Bool:=
 match P.info? T with
 |some i=>match i.zero with
  |some zv=>(match YS z zv.cells.toList with | some []=>aZ | _=>aQ) && (uf zv==z.agg)
  |none=>aQ
 |none=>aQ
structure iB where
 val:aC
 cz:List dW
 news:List dW
structure Entry where
 params:List (Option Ty)
 X:Type
 run:List aC->List dW->Option X
 out:List aC->List dW->X->iB
 sp:X->Out X:= .ok
 ayv:∀x y,(sp x).eval=av y->y=x:=by exact λx y h=>(bn h).symm
 rel:Bool:=aQ
 set:List aC->List dW->X->Prop:=λ_ _ _=>False
abbrev pO:=fV->List aC->Option Entry
def aC.ids:aC->List Id
 | .ptr id _ _ _=> [id]
 | .bE id _ _ _ _ _=> [id]
 | .pr a b=>a.ids++b.ids
 | .cons a b=>a.ids++b.ids
 | .fn _ c=>c.ids
 | .bx _ _ c=>c.ids
 | .cI id _=> [id]
 | .yl id _=> [id]
 | .sS _ f _=>f.ids
 | .uE id _ _ _ _ _=> [id]
 |_=> []
def dW.ids:dW->List Id
 | .obj _ _ c=>c.ids
 | .dead=> []
def AS.reach(s:AS):Nat->List Id->List Id->List Id
 | 0,_,acc=>acc
 |_+1,[],acc=>acc
 |n+1,id::todo,acc=>if acc.contains id then s.reach n todo acc else s.reach n (((s.cq id).getD .dead).ids++todo) (acc++ [id])
def idxOf(id:Id):List Id->Option Nat
 |[]=>aD
 |x::xs=>if x=id then av 0 else(idxOf id xs).map (· +1)
def aC.jB(ρ:Id->Nat->Option (Id×Nat)):aC->aC
 | .ptr id ver p n=>match ρ id ver with | some r=> .ptr r.1 r.2 p n | none=> .gone
 | .bE id ver p c i len=>match ρ id ver with | some r=> .bE r.1 r.2 p c i len | none=> .gone
 | .pr a b=> .pr (a.jB ρ) (b.jB ρ)
 | .cons a b=> .cons (a.jB ρ) (b.jB ρ)
 | .fn f c=> .fn f (c.jB ρ)
 | .bx e z c=> .bx e z (c.jB ρ)
 | .cI id ver=>match ρ id ver with | some r=> .cI r.1 r.2 | none=> .gone
 | .yl id ver=>match ρ id ver with | some r=> .yl r.1 r.2 | none=> .gone
 | .sS k f p=> .sS k (f.jB ρ) p
 | .uE id _ k v rest cur=> .uE id 0 k v rest cur
 |v=>v
def AS.yV(s:AS)(ids:List Id)(id:Id)(ver:Nat):Option (Id×Nat):=
 match idxOf id ids,s.obj id with
 |some k,av (v,_,_)=>if v=ver then av (.bt k,0) else aD
 |_,_=>aD
def AS.nY(s:AS)(ids:List Id)(id:Id):dW:=
 match s.cq id with
 |some (.obj _ fr c)=> .obj 0 fr (c.jB (s.yV ids))
 |_=> .dead
def AS.Ef(s:AS)(id:Id):Nat:=match s.obj id with | some (v,_,_)=>v | none=>0
def aPN(ids:List Id)(dst:Nat):Id->Id
 | .bt k=>ids.getD k (.bt 0)
 | .new _ j=> .new dst j
def AS.xp(s:AS)(ids:List Id)(dst:Nat):Id->Nat->Option (Id×Nat)
 | .bt k,v=>match ids[k]? with | some id=>av (id,s.Ef id+v) | none=>aD
 | .new _ j,v=>av (.new dst j,v)
def AS.tY(s:AS)(ids:List Id)(dst:Nat)(ver:Nat):dW->dW
 | .obj v fr c=> .obj (ver+v) fr (c.jB (s.xp ids dst))
 | .dead=> .dead
def AS.conv(s:AS):List (Option Ty)->List aC->Out (List aC×List Id)
 |[],[]=> .ok ([],[])
 |some t::ps,v::vs=>(s.jT t v).bind λx=>(s.conv ps vs).bind λr=> .ok (.d t x::r.1,v.shared++r.2)
 |none::ps,v::vs=>(s.conv ps vs).bind λr=> .ok (v::r.1,r.2)
 |_,_=> .fail
def AS.ki(s0:AS)(all:List Id)(dst:Nat)(s:AS):List Id->List dW->AS
 |id::ids,e::es=>AS.ki s0 all dst (s.bq id (s0.tY all dst (s0.Ef id) e)) ids es
 |_,_=>s
def aC.list:aC->List aC
 | .cons a b=>a::b.list
 |_=> []
def AS.made(s:AS)(ids:List Id)(t:Nat):List dW->AS
 |[]=>s
 |e::es=>s.born t ((e::es).map (s.tY ids t 0))
def AS.back(s:AS)(ids:List Id)(dst:Option Tmp)(g:iB):Out AS:=
 match dst with
 |some t=> .guard ((g.cz.length==ids.length) && (g.news.isEmpty || s.eS t))
   (.ok ((AS.ki s ids t (s.made ids t g.news) ids g.cz).put dst (g.val.jB (s.xp ids t))))
 |none=> .guard ((g.cz.length==ids.length) && g.news.isEmpty) (.ok (AS.ki s ids 0 s ids g.cz))
def AS.aib(s:AS)(vs:List aC):List Id:=s.reach 64 (vs.flatMap aC.ids) []
def AS.VA(s:AS)(id:Id):Bool:=match s.obj id with | some (_,aZ,.mp ..)=>aQ | _=>aZ
def AS.enter(s:AS)(en:Entry)(dst:Option Tmp)(ids:List Id)(vs:List aC):Out AS:= .guard (ids.all λid=>(s.obj id).isSome && s.VA id) (.get (en.run (vs.map (aC.jB (s.yV ids))) (ids.map (s.nY ids))) λx=>(en.sp x).bind λx=>s.back ids dst (en.out (vs.map (aC.jB (s.yV ids))) (ids.map (s.nY ids)) x))
def AS.call(s:AS)(en:Entry)(dst:Option Tmp)(vs:List aC):Out AS:=(s.conv en.params vs).bind λr=>(s.bG r.2).enter en dst ((s.bG r.2).aib r.1) r.1
def cV(op:BinOp)(k:lC)(x y:Int):Int:=
 match op with
 | .and=>k.wrap ((bo k.bits x &&& bo k.bits y).toNat)
 | .or=>k.wrap ((bo k.bits x ||| bo k.bits y).toNat)
 | .xor=>k.wrap ((bo k.bits x^^^bo k.bits y).toNat)
 |_=>k.wrap ((bo k.bits x &&& ~~~bo k.bits y).toNat)
def aHG(op:BinOp)(k:lC)(x:Int)(k':lC)(y:Int):Out aC:=
 match op with
 | .shl=> .wI (decide (0<=y)) (.ok (.d (.int k) (k.wrap (x*2^(min y.toNat k.bits)))))
 | .shr=> .wI (decide (0<=y)) (.ok (.d (.int k) (x.fdiv (2^(min y.toNat k.bits)))))
 |_=> .guard (decide (k=k')) (match op with
  | .add=> .ok (.d (.int k) (k.wrap (x+y)))
  | .sub=> .ok (.d (.int k) (k.wrap (x - y)))
  | .mul=> .ok (.d (.int k) (k.wrap (x*y)))
  | .quo=> .wI (!(decide (y=0))) (.ok (.d (.int k) (k.wrap (x.tdiv y))))
  | .rem=> .wI (!(decide (y=0))) (.ok (.d (.int k) (x.tmod y)))
  | .eql=> .ok (.d .bool (x==y))
  | .neq=> .ok (.d .bool (x !=y))
  | .lss=> .ok (.d .bool (decide (x < y)))
  | .leq=> .ok (.d .bool (decide (x<=y)))
  | .gtr=> .ok (.d .bool (decide (x > y)))
  | .geq=> .ok (.d .bool (decide (x>=y)))
  |op=> .ok (.d (.int k) (cV op k x y)))
def aKr(op:BinOp)(x y:ByteArray):Out aC:=
 match op with
 | .add=> .wI (decide (((x.size+y.size:Nat):Int)<=IntKind.i64.max)) (.ok (.d .str (x++y)))
 | .eql=> .ok (.d .bool (x.toList==y.toList))
 | .neq=> .ok (.d .bool (!(x.toList==y.toList)))
 | .lss=> .ok (.d .bool (Op.bytesLess x.toList y.toList))
 | .geq=> .ok (.d .bool (!(Op.bytesLess x.toList y.toList)))
 |_=> .fail
def PR(P:aT)(T:TypeId)(b:Bool):Bool:=
 match P.underlying T with | some (.struct _)=>b | some (.array _ _)=>b | some _=> !b | none=>aQ
def Py(P:aT)(wI:TypeId->Ty->Bool):List Field->Ty->Nat->Bool
 |[],.unit,_=>aZ
 |f::fs,.pair a b,off=> !(f.name== "_") && (f.offset==off) && !(a.size==0) && (P.cellsOf f.type==a.size) && PR P f.type a.agg && wI f.type a && Py P wI fs b (off+a.size)
 |_,_,_=>aQ
def uB(P:aT):Nat->TypeId->Ty->Bool
 | 0,_,_=>aQ
 |n+1,T,t=>match P.underlying T,t with
  |some (.int _),.int _=>aZ
  |some .bool,.bool=>aZ
  |some .string,.str=>aZ
  |some (.array m e),.arr m' t'=>(m==m') && !(t'.size==0) && (P.cellsOf e==t'.size) && PR P e t'.agg && uB P n e t'
  |some (.struct fs),t=> !P.stoodInHeld T && Py P (uB P n) fs.toList t 0
  |_,_=>aQ
def C3(P:aT)(T:TypeId):aC->aC->Out Bool
 | .d t x,.d t' y=>(Out.opt (wZ t' t y)).bind λy=> .guard ((t.agg && !P.eqGuardType P.depth T || decide (t= .bool)) && uB P depth T t) (.ok (t.beq x y))
 | .dy,.dy=> .guard (isSl P T) (.ok aZ)
 | .d (.slice t) l,.dy=> .guard (isSl P T) (.wI (decide (0 < (l:List t.den).length)) (.ok aQ))
 | .dy,.d (.slice t) l=> .guard (isSl P T) (.wI (decide (0 < (l:List t.den).length)) (.ok aQ))
 | .bE _ _ _ _ _ len,.dy=> .guard (isSl P T) (.wI (decide (0 < len)) (.ok aQ))
 | .dy,.bE _ _ _ _ _ len=> .guard (isSl P T) (.wI (decide (0 < len)) (.ok aQ))
 | .sq,.sq=> .guard (isPt P T) (.ok aZ)
 | .ptr ..,.sq=> .guard (isPt P T) (.ok aQ)
 | .sq,.ptr .. => .guard (isPt P T) (.ok aQ)
 | .d (.vC t) x,.sq=> .guard (isPt P T) (.ok (x:Option t.den).isNone)
 | .sq,.d (.vC t) x=> .guard (isPt P T) (.ok (x:Option t.den).isNone)
 | .yP,.yP=> .guard (isFn P T) (.ok aZ)
 | .fn ..,.yP=> .guard (isFn P T) (.ok aQ)
 | .yP,.fn .. => .guard (isFn P T) (.ok aQ)
 |_,_=> .fail
where
 isSl (P:aT) (T:TypeId):Bool:=match P.underlying T with | some (.slice _)=>aZ | _=>aQ
 isPt (P:aT) (T:TypeId):Bool:=match P.underlying T with | some (.pointer _)=>aZ | _=>aQ
 isFn (P:aT) (T:TypeId):Bool:=match P.underlying T with | some (.func _ _ _)=>aZ | _=>aQ
def aQo(P:aT)(T:TypeId)(op:BinOp)(x y:aC):Out aC:=
 match x,y with
 | .d (.int k) a,.d (.int k') b=>aHG op k a k' b
 | .d .str a,.d .str b=>aKr op a b
 |x,y=>match op with
  | .eql=>(C3 P T x y).bind λb=> .ok (.d .bool b)
  | .neq=>(C3 P T x y).bind λb=> .ok (.d .bool (!b))
  |_=> .fail
def aVn(op:UnOp)(x:aC):Out aC:=
 match op,x with
 | .not,.d .bool b=> .ok (.d .bool (!b))
 | .neg,.d (.int k) n=> .ok (.d (.int k) (k.wrap (0 - n)))
 | .xor,.d (.int k) n=> .ok (.d (.int k) (cV .xor k (if k.signed then -1 else k.max) n))
 |_,_=> .fail
def bN(s:ByteArray):List Int:=s.data.toList.map λb=>(b.toNat:Int)
def fY(l:List Int):ByteArray:=⟨(l.map λn=>fQ n.toNat).toArray⟩
def AS.auS(s:AS)(t:Ty)(v:aC):Out t.den:=s.jT t v
def aF2(P:aT)(s:AS)(obj:Bool)(src dst:TypeId)(x:aC):Out aC:=
 match x,P.underlying dst,P.underlying src with
 | .d (.int _) n,av (.int k),av _=> .ok (.d (.int k) (k.wrap n))
 | .d .str a,av .string,av _=> .ok (.d .str a)
 | .d .str a,av (.slice e),av _=>match P.underlying e with
  |some (.int .u8)=>match obj with | true=> .ok (.sb (bN a)) | false=> .ok (.d (.slice (.int .u8)) (bN a))
  |_=> .fail
 |x,av .string,av (.slice e)=>match P.underlying e with
  |some (.int .u8)=>(s.auS (.slice (.int .u8)) x).bind λl=> .ok (.d .str (fY l))
  |_=> .fail
 |_,_,_=> .fail
def aF3(P:aT)(src dst:TypeId)(l:List Int):Out aC:=
 match P.underlying dst,P.underlying src with
 |some (.slice e),av (.slice _)=>match P.underlying e with
  |some (.int .u8)=> .guard (src==dst) (.ok (.d (.slice (.int .u8)) l))
  |_=> .fail
 |_,_=> .fail
def ahE(P:aT)(s:AS)(obj:Bool)(src dst:TypeId)(x:aC):Out aC:=
 match x with
 | .sb l=>aF3 P src dst l
 |x=>aF2 P s obj src dst x
def aod(P:aT)(s:AS)(d:Option Tmp)(src dst:TypeId)(id:Id)(ver len:Nat):Out AS:=
 match s.obj id,P.underlying dst with
 |some (v,aQ,.vec _ (.int .u8) l),av (.slice e)=>match P.underlying e with
  |some (.int .u8)=> .guard ((v==ver) && (src==dst)) (.wI (decide (0 < len/\len=(l:List Int).length)) (.ok ((s.bq id .dead).put d (.d (.slice (.int .u8)) l))))
  |_=> .fail
 |_,_=> .fail
def ahF(P:aT)(s:AS)(src dst:TypeId)(id:Id)(ver:Nat):Out aC:=
 match s.obj id with
 |some (v,_,.bx e 0 c)=>match P.underlying src,P.underlying dst with
  |some (.pointer t),av .unsafePointer=> .guard ((v==ver) && !(P.cellsOf t==0) && !(c.size==0)) (.ok (.ptr id ver [] 0))
  |some .unsafePointer,av (.pointer u)=> .guard ((v==ver) && !(P.cellsOf u==0) && liesAt P P.depth e (c.size / P.cellsOf e) 0 u 1) (.ok (.ptr id ver [] 0))
  |_,_=> .fail
 |_=> .fail
def aUu(P:aT)(T:TypeId):Bool:=match P.underlying T with | some (.pointer u)=>(P.info? u).isSome | _=>aQ
def aSG(P:aT)(s:AS)(T:TypeId)(op:BinOp)(i:Id)(v:Nat)(j:Id)(w:Nat):Out aC:=
 match s.obj i with
 |some (v',_,_)=> .guard (decide (i=j) && (v==w) && (v==v') && aUu P T) (match op with | .eql=> .ok (.d .bool aZ) | .neq=> .ok (.d .bool aQ) | _=> .fail)
 |none=> .fail
def arL(P:aT)(s:AS)(d:Option Tmp)(T:TypeId)(id:Id)(ver:Nat)(n:Int):Out AS:=
 match s.obj id,P.underlying T with
 |some (v,aQ,.vec e (.int .u8) l),av (.pointer u)=> .guard ((v==ver) && (u==e) && (P.cellsOf e==1))
   (.wI (decide (0 < n/\n<=((l:List Int).length:Int))) (.ok ((s.bq id .dead).put d (.d .str (fY ((l:List Int).take n.toNat))))))
 |_,_=> .fail
def asInt:aC->Out Int
 | .d (.int _) n=> .ok n
 |_=> .fail
def bounds(s:AS)(n:Nat)(lo hi:Option bU):Out (Nat×Nat):=
 (match hi with
  |some h=>(asInt (s.ev h)).bind λh=> .wI (decide (0<=h/\h<=(n:Int))) (.ok h.toNat)
  |none=> .ok n).bind λh=>
 (match lo with
  |some l=>(asInt (s.ev l)).bind λl=> .wI (decide (0<=l/\l<=(h:Int))) (.ok l.toNat)
  |none=> .ok 0).bind λl=> .ok (l,h)
def mg(P:aT)(T:TypeId):Option Nat:=
 match P.underlying T with
 |some (.array _ e)=>match P.cellsOf e with | 0=>aD | z+1=>av (z+1)
 |some (.slice e)=>match P.cellsOf e with | 0=>aD | z+1=>av (z+1)
 |_=>aD
def zF(P:aT)(T:TypeId):Option Nat:=
 match P.underlying T with
 |some (.array n _)=>av n
 |_=>aD
def Le(P:aT)(s:AS)(T:TypeId)(x:aC)(lo hi:Option bU):Out aC:=
 match x with
 | .d .str a=> .guard (match P.underlying T with | some .string=>aZ | _=>aQ) ((bounds s a.size lo hi).bind λb=> .ok (.d .str (a.extract b.1 b.2)))
 | .d (.slice t) l=> .guard (match mg P T,zF P T with | some z,aD=>z==t.size | _,_=>aQ)
   ((bounds s (l:List t.den).length lo hi).bind λb=> .ok (.d (.slice t) (cut l b.1 (b.2 - b.1))))
 | .dy=> .guard (match mg P T,zF P T with | some _,aD=>aZ | _,_=>aQ) ((bounds s 0 lo hi).bind λ_=> .ok .dy)
 | .bE id ver p c i len=>(s.row id ver p).bind λr=> .guard (match mg P T,zF P T with | some z,aD=>z==r.2.1.size | _,_=>aQ)
   ((bounds s len lo hi).bind λb=> .ok (.bE id ver p (c+b.1*r.2.1.size) (i+b.1) (b.2 - b.1)))
 | .ptr id ver p n=>(s.row id ver p).bind λr=> .guard (match mg P T,zF P T with | some z,av _=>z==r.2.1.size | _,_=>aQ)
   (.wI (decide (zF P T=av r.2.2.length/\r.1=n)) ((bounds s ((zF P T).getD 0) lo hi).bind λb=> .ok (.bE id ver (p++ [.arr]) (n+b.1*r.2.1.size) b.1 (b.2 - b.1))))
 | .dV (.arr n t) l=> .guard (match mg P T,zF P T with | some z,av m=>(z==t.size) && (m==n) | _,_=>aQ)
   ((bounds s n lo hi).bind λb=> .ok (.d (.slice t) (cut l b.1 (b.2 - b.1))))
 |_=> .fail
def aNH:aC->Int
 | .d (.slice t) l=>((l:List t.den).length:Int)
 | .bE _ _ _ _ _ len=>(len:Int)
 | .dy=>0
 |_=> -1
def aoD:Option bU->aC->aC
 |some _,.bE id ver p c i len=> .bE id ver (p++ [.arr]) c i len
 |_,v=>v
def TJ(P:aT)(s:AS)(T:TypeId)(x:aC)(lo:Option bU)(h m:bU):Out aC:=(asInt (s.ev h)).bind λhv=>(asInt (s.ev m)).bind λmv=> .wI (decide (0<=hv/\hv<=mv/\mv<=aNH x)) ((Le P s T x lo (av h)).bind λv=> .ok (aoD (av m) v))
def ud(P:aT)(s:AS)(T:TypeId)(x:aC)(i:Int):Out aC:=
 match x with
 | .d (.slice t) l=> .guard (match mg P T,zF P T with | some z,aD=>z==t.size | _,_=>aQ)
   (.wI (decide (0<=i/\i < ((l:List t.den).length:Int))) (.ok (.dV t (nth t l i.toNat))))
 | .dV (.arr n t) l=> .guard (match mg P T,zF P T with | some z,av m=>(z==t.size) && (m==n) | _,_=>aQ)
   (.wI (decide (0<=i/\i < (n:Int))) (.ok (.dV t (nth t l i.toNat))))
 | .bE id ver p c j len=>(s.row id ver p).bind λr=> .guard (match mg P T,zF P T with | some z,aD=>z==r.2.1.size | _,_=>aQ)
   (.wI (decide (0<=i/\i < (len:Int))) (.ok (.ptr id ver (p++ [.idx (j+i.toNat)]) (c+i.toNat*r.2.1.size))))
 | .ptr id ver p n=> .guard (match mg P T,zF P T with | some _,av _=>aZ | _,_=>aQ)
   (.wI (decide (0<=i/\i < (((zF P T).getD 0:Nat):Int))) (.ok (.ptr id ver (p++ [.idx i.toNat]) (n+i.toNat*(mg P T).getD 0))))
 |_=> .fail
def fieldInfo(P:aT)(T:TypeId)(f:Nat):Option (Nat×TypeId):=
 match P.underlying T with
 |some (.struct fs)=>match fs[f]? with | some x=>av (x.offset,x.type) | none=>aD
 |_=>aD
def partOf:aC->Nat->Option (Nat×aC)
 | .d (.pair a _) x,0=>av (0,.d a x.1)
 | .d (.pair a b) x,n+1=>match partOf (.d b x.2) n with | some (o,v)=>av (a.size+o,v) | none=>aD
 | .pr a _,0=>av (0,a)
 | .pr a b,n+1=>match partOf b n with | some (o,v)=>av (a.size+o,v) | none=>aD
 |_,_=>aD
def G2(P:aT)(T:TypeId)(x:aC)(f:Nat):Out aC:=
 match fieldInfo P T f with
 |some (o,ft)=> .guard (!(P.cellsOf ft==0)) (match x with
  | .ptr id ver p n=> .ok (.ptr id ver (p++pn f) (n+o))
  | .dV t x=>match partOf (.d t x) f with
   |some (o',.d t' y)=> .guard (o==o') (.ok (.dV t' y))
   |_=> .fail
  | .d (.vC t) x=> .get (x:Option t.den) λx=>match partOf (.d t x) f with
   |some (o',.d t' y)=> .guard (o==o') (.ok (.dV t' y))
   |_=> .fail
  |_=> .fail)
 |none=> .fail
def akG(P:aT)(T:TypeId)(x:aC)(f:Nat):Out aC:=
 match fieldInfo P T f,partOf x f with
 |some (o,ft),av (o',v)=> .guard ((o==o') && fits P ft v) (.ok v)
 |_,_=> .fail
def ak2(P:aT)(T:TypeId)(x:aC)(i:Int):Out aC:=
 match x,P.underlying T with
 | .d (.arr n t) l,av (.array m e)=> .guard ((n==m) && fits P e (.d t t.zero)) (.wI (decide (0<=i/\i < (n:Int))) (.ok (.d t (nth t l i.toNat))))
 | .d .str a,av .string=> .wI (decide (0<=i/\i < (a.size:Int))) (.ok (.d (.int .u8) ((a.data.toList.getD i.toNat 0).toNat:Int)))
 |_,_=> .fail
def aRN:aC->Out aC
 | .d (.iT t) l=> .wI (l:Option (List t.den)).isNone (.ok .dy)
 |v=> .ok v
def Sx(P:aT)(s:AS)(T:TypeId)(x:aC):Out aC:=
 match x with
 | .ptr id ver p n=>match s.obj id with
  |some (v,_,c)=> .guard (v==ver) ((loc c.strip p).bind λr=> .guard (fits P T r.2) (.wI (decide (r.1=n)) (aRN r.2)))
  |none=> .fail
 | .dV t y=> .guard (fits P T (.d t y)) (.ok (.d t y))
 | .d (.vC t) y=> .get (y:Option t.den) λy=> .guard (fits P T (.d t y)) (.ok (.d t y))
 |_=> .fail
def Lj(P:aT)(s:AS)(T:TypeId)(x v:aC):Out AS:=
 match x with
 | .ptr id ver p n=>match s.obj id with
  |some (ve,fr,c)=> .guard ((ve==ver) && !fr && fits P T v) ((loc c.strip p).bind λr=> .guard (fits P T r.2) (.wI (decide (r.1=n)) ((zH c.strip p v).bind λc'=> .ok (s.bq id (.obj ve fr (c.wrap c'))))))
  |none=> .fail
 |_=> .fail
def aNG(P:aT)(T:TypeId)(x:aC):Out aC:=
 match P.underlying T,x with
 |some .string,.d .str a=> .ok (.d (.int .i64) (a.size:Int))
 |some (.slice _),.d (.slice t) l=> .ok (.d (.int .i64) ((l:List t.den).length:Int))
 |some (.slice _),.dy=> .ok (.d (.int .i64) (0:Int))
 |some (.slice _),.bE _ _ _ _ _ len=> .ok (.d (.int .i64) (len:Int))
 |some (.array n _),_=> .ok (.d (.int .i64) (n:Int))
 |_,_=> .fail
def J9(P:aT)(s:AS)(t:Ty)(X:TypeId)(x:aC):Out (List t.den):=
 match x with
 | .d .str a=>match P.underlying X with
  |some .string=>Out.opt (wZ (.slice (.int .u8)) (.slice t) (bN a))
  |_=> .fail
 |x=>match P.underlying X with
  |some (.slice _)=>s.auS (.slice t) x
  |_=> .fail
def dw(n b:Nat):Bool:=decide (n*b<=140737488355328/\n<=9223372036854775807)
def GY(P:aT)(nl:Bool)(T:TypeId):Option (TypeId×Ty×Nat):=
 match P.underlying T with
 |some (.slice e)=>match aff P nl depth e with
  |some t=>match(P.cellsOf e==t.size) && !(t.size==0) && am0 P e (.d t t.zero) with | true=>av (e,t,P.bytesOf e) | false=>aD
  |none=>aD
 |_=>aD
def ZB(P:aT)(T:TypeId):Option (TypeId×Ty×Nat):=GY P aQ T
def akv(P:aT)(T:TypeId):Option (TypeId×Ty×Nat):=
 match Nat.ble 100000 T with
 |true=>GY P aZ (T - 100000)
 |false=>GY P aQ T
def ao3(P:aT)(s:AS)(dst:Option Tmp)(T X:TypeId)(n:Int):Out AS:=
 match ZB P T,dst,P.underlying X with
 |some (e,t,b),av q,av (.int _)=> .guard (s.eS q) (.wI (decide (0 < n) && dw n.toNat b)
   (.ok ((s.born q [.obj 0 aQ (.vec e t (ab n.toNat t.zero))]).put dst (.bE (.new q 0) 0 [] 0 0 n.toNat))))
 |_,_,_=> .fail
def aBm(mx:Bool):List aC->Out aC
 |[.d (.int k) x,.d (.int k') y]=> .guard (decide (k=k')) (.ok (.d (.int k) (match mx with | true=>(if x < y then y else x) | false=>(if y < x then y else x))))
 |[.d (.int k) x,.d (.int k') y,.d (.int k2) z]=> .guard (decide (k=k') && decide (k=k2)) (.ok (.d (.int k) (match mx with | true=>(if(if x < y then y else x) < z then z else(if x < y then y else x)) | false=>(if z < (if y < x then y else x) then z else(if y < x then y else x)))))
 |_=> .fail
def zJ(P:aT)(s:AS)(nl dt:Bool)(dst:Option Tmp)(T X:TypeId)(x y:aC):Out AS:=
 match GY P nl T,dst with
 |some (e,t,b),av q=>(J9 P s t X y).bind λm=>
  match x with
  | .dy=>match dt with
   |true=> .wI (dw m.length b && decide (0 < m.length)) (.ok (s.put dst (.d (.iT t) (av m))))
   |false=> .guard (s.eS q) (.wI (dw m.length b) (.ok ((s.born q [.obj 0 aQ (.vec e t m)]).put dst (.bE (.new q 0) 0 [] 0 0 m.length))))
  | .bE id ver [] 0 0 len=>match s.obj id with
   |some (v,fr,.vec e' t' l)=> .guard ((v==ver) && (e==e')) ((Out.opt (wZ (.slice t') (.slice t) l)).bind λl=>
     .wI (decide (len<=l.length)) <| .wI ((!fr) || decide (len=l.length)) (.wI (dw (len+m.length) b)
      (.ok ((s.bq id (.obj (v+1) fr (.vec e t (l.take len++m)))).put dst (.bE id (v+1) [] 0 0 (len+m.length))))))
   |_=> .fail
  |_=> .fail
 |_,_=> .fail
def aa4(P:aT)(s:AS)(dst:Option Tmp)(T X:TypeId)(x y:aC):Out AS:=
 match ZB P T,x with
 |some (_,t,_),.bE id ver [.arr] 0 0 len=>(J9 P s t X y).bind λm=>match s.obj id with
  |some (ve,aQ,.d (.arr n t') l)=> .guard ((ve==ver) && (len==n)) ((Out.opt (wZ (.slice t') (.slice t) l)).bind λl=> .wI (decide (m.length<=n))
    (.ok ((s.bq id (.obj ve aQ (.d (.arr n t) (m++(l:List t.den).drop m.length)))).put dst (.d (.int .i64) (m.length:Int)))))
  |_=> .fail
 |_,_=> .fail
def j9(t:Ty)(s:AS):List (Nat×bU)->List t.den->Out (List t.den×List Id)
 |[],l=> .ok (l,[])
 | (i,x)::ps,l=> .guard (decide (i < l.length)) ((s.jT t (s.ev x)).bind λy=>(j9 t s ps (l.set i y)).bind λr=> .ok (r.1,(s.ev x).shared++r.2))
def rS(P:aT)(fs:Array Field)(s:AS):List (Nat×bU)->aC->Out aC
 |[],v=> .ok v
 | (i,x)::ps,v=>match fs[i]?,partOf v i with
  |some f,av (o,bt)=> .guard ((f.offset==o) && fits P f.type bt && fits P f.type (s.ev x)) ((zH v (pn i) (s.ev x)).bind λv'=>rS P fs s ps v')
  |_,_=> .fail
def Jv(P:aT)(s:AS)(dst:Option Tmp)(T:TypeId)(parts:List (Nat×bU)):Out AS:=
 match P.underlying T with
 |some (.struct fs)=>match zeroOf P depth T with
  |some z=> .guard (am0 P T z && z.agg && fs.toList.all λf=>(P.info? f.type).isSome)
    ((rS P fs s parts z).bind λv=> .ok (s.put dst v))
  |none=> .fail
 |some (.array n e)=>match ar0 P depth e with
  |some t=> .guard ((P.cellsOf e==t.size) && am0 P T (.d (.arr n t) (ab n t.zero))) ((j9 t s parts (ab n t.zero)).bind λr=> .ok ((s.bG r.2).put dst (.d (.arr n t) r.1)))
  |none=> .fail
 |_=> .fail
def nU(P:aT)(s:AS)(nl obj:Bool)(dst:Option Tmp)(T:TypeId)(n:Nat)(parts:List (Nat×bU)):Out AS:=
 match GY P nl T,dst with
 |some (e,t,_),av q=> .guard (decide (n*t.size<=16777216)) ((j9 t s parts (ab n t.zero)).bind λr=>
   match obj with
   |true=> .guard (s.eS q) (.ok (((s.bG r.2).born q [.obj 0 aQ (.vec e t r.1)]).put dst (.bE (.new q 0) 0 [] 0 0 r.1.length)))
   |false=> .ok ((s.bG r.2).put dst (.d (.slice t) r.1)))
 |_,_=> .fail
def ui(P:aT)(s:AS)(dst:Option Tmp)(T:TypeId)(len cap:Int):Out AS:=
 match ZB P T,dst with
 |some (e,t,b),av q=> .guard (s.eS q) (.wI (decide (0<=len/\len<=cap) && dw cap.toNat b)
   (.ok ((s.born q [.obj 0 aQ (.vec e t (ab len.toNat t.zero))]).put dst (.bE (.new q 0) 0 [] 0 0 len.toNat))))
 |_,_=> .fail
def aOJ(P:aT)(T:TypeId):Bool:=
 match P.underlying T with
 |some (.struct fs)=>fs.toList.any λf=>match P.underlying f.type with | some (.pointer u)=>decide (u=T) | _=>aQ
 |_=>aQ
def boxed(P:aT)(T:TypeId)(z:aC):aC:=match aOJ P T with | true=> .bx T 0 z | false=>z
def aQt(dt:Bool)(t:Ty)(x:t.den):aC:=match dt with | true=> .d (.vC t) (av x) | false=> .dV t x
def anL(P:aT)(s:AS)(obj dt:Bool)(dst:Option Tmp)(T:TypeId)(v:aC):Out AS:=
 match dst with
 |some q=>match obj with
  |true=> .guard (s.eS q && fits P T v) (.ok ((s.born q [.obj 0 aQ v]).put dst (.ptr (.new q 0) 0 [] 0)))
  |false=>match ar0 P depth T with
   |some t=> .guard (fits P T (.d t t.zero)) ((s.jT t v).bind λx=> .ok ((s.bG v.shared).put dst (aQt dt t x)))
   |none=> .fail
 |none=> .fail
def QA(P:aT)(s:AS)(dst:Option Tmp)(T:TypeId)(x:aC):Out AS:=
 match P.underlying T with
 |some (.array n e)=>match ar0 P depth e with
  |some t=> .guard ((P.cellsOf e==t.size) && !(n==0) && !(t.size==0)) ((s.jT (.slice t) x).bind λl=> .wI (decide (n<=(l:List t.den).length)) (.ok ((s.bG x.shared).put dst (.dV (.arr n t) (l.take n)))))
  |none=> .fail
 |_=> .fail
def tT(s:AS):List bU->aC
 |[]=> .nil
 |x::xs=> .cons (s.ev x) (tT s xs)
def BL:aC->Bool
 | .cons a b=>a.fA && BL b
 | .nil=>aZ
 |_=>aQ
def aye(c a b:aC):Out aC:=
 match c with
 | .d .bool c=>match a,b with
  | .d .bool x,.d .bool y=> .ok (.d .bool (bif c then x else y))
  |a,b=> .br c (.ok a) (.ok b)
 |_=> .fail
def isObj(bT:List Nat):Option Tmp->Bool
 |some q=>bT.any λx=>decide (x=q)
 |none=>aQ
def aAW(bT:List Nat)(dst:Option Tmp):Bool:=isObj bT (dst.map (· +100000))
def aue(bT:List Nat)(dst:Option Tmp):Bool:=isObj bT (dst.map (· +200000))
def sr:(t:Ty)->aC->Out t.den
 |t,.d t' x=>Out.opt (wZ t' t x)
 | .slice _,.dy=> .ok []
 | .pair a b,.pr x y=>(sr a x).bind λx=>(sr b y).bind λy=> .ok (x,y)
 |_,_=> .fail
def mapOf(P:aT)(T:TypeId):Option (TypeId×TypeId×Ty×Ty):=
 match P.underlying T with
 |some (.map K V)=>match ar0 P depth K,ar0 P depth V with
  |some kt,av vt=>match uB P depth K kt && am0 P V (.d vt vt.zero) with | true=>av (K,V,kt,vt) | false=>aD
  |_,_=>aD
 |_=>aD
def jz{β:Type}(kt:Ty)(x:kt.den):List (kt.den×β)->Option Nat
 |[]=>aD
 |p::l=>match kt.beq x p.1 with | true=>av 0 | false=>(jz kt x l).map (· +1)
def bW{β:Type}(kt:Ty)(x:kt.den)(l:List (kt.den×β)):Option β:=(jz kt x l).bind λi=>(l[i]?).map (·.2)
def fj{β:Type}(kt:Ty)(x:kt.den)(v:β)(l:List (kt.den×β)):List (kt.den×β):=
 match jz kt x l with | some i=>l.set i (x,v) | none=>l++ [(x,v)]
def iO{β:Type}(kt:Ty)(x:kt.den)(l:List (kt.den×β)):List (kt.den×β):=
 match jz kt x l with | some i=>l.eraseIdx i | none=>l
def ata(k v k' v':Ty)(l:List (k.den×v.den)):Option (List (k'.den×v'.den)):=if h:k=k'/\v=v' then av (h.1▸h.2▸l) else aD
def AS.vM(s:AS)(id:Id)(ver:Nat)(kt vt:Ty):Out (List (kt.den×vt.den)):=
 match s.obj id with
 |some (v,_,.mp k' v' l)=> .guard (v==ver) (Out.opt (ata k' v' kt vt l))
 |_=> .fail
def AS.wh(s:AS)(id:Id):Bool:=match s.obj id with | some (_,fr,_)=> !fr | none=>aQ
def aPU(vt:Ty)(ok:Bool)(r:Option vt.den):aC:=
 match ok with
 |true=> .cons (.d vt (r.getD vt.zero)) (.cons (.d .bool r.isSome) .nil)
 |false=> .d vt (r.getD vt.zero)
def J8(P:aT)(s:AS)(dst:Option Tmp)(T:TypeId):Out AS:=
 match mapOf P T,dst with
 |some (_,_,kt,vt),av q=> .guard (s.eS q) (.ok ((s.born q [.obj 0 aQ (.mp kt vt [])]).put dst (.cI (.new q 0) 0)))
 |_,_=> .fail
def Ha(P:aT)(s:AS)(T:TypeId)(m k:aC)(ok:Bool):Out aC:=
 match mapOf P T,m with
 |some (_,_,kt,vt),.cI id ver=>(s.vM id ver kt vt).bind λl=>(sr kt k).bind λk=> .ok (aPU vt ok (bW kt k l))
 |_,_=> .fail
def Hf(P:aT)(s:AS)(T:TypeId)(m k v:aC):Out AS:=
 match mapOf P T,m with
 |some (_,_,kt,vt),.cI id ver=>(s.vM id ver kt vt).bind λl=>(sr kt k).bind λk=>(sr vt v).bind λv=> .guard (s.wh id) (.ok (s.bq id (.obj ver aQ (.mp kt vt (fj kt k v l)))))
 |_,_=> .fail
def He(P:aT)(s:AS)(T:TypeId)(m k:aC):Out AS:=
 match mapOf P T,m with
 |some (_,_,kt,vt),.cI id ver=>(s.vM id ver kt vt).bind λl=>(sr kt k).bind λk=> .guard (s.wh id) (.ok (s.bq id (.obj ver aQ (.mp kt vt (iO kt k l)))))
 |_,_=> .fail
def AS.apD(s:AS)(id:Id)(ver:Nat):Bool:=match s.obj id with | some (v,aZ,.mp ..)=>v==ver | _=>aQ
def dW.aHI(q:Id):dW->Bool
 | .obj _ _ (.uE q' ver _ _ _ _)=>decide (q'=q) && !(ver==0)
 |_=>aQ
def AS.adP(s:AS)(q:Id):Bool:=s.cz.any (dW.aHI q) || s.news.any λes=>es.any (dW.aHI q)
def AR(kt vt:Ty)(l:List (kt.den×vt.den))(j:Nat):kt.den×vt.den:=l.getD j (kt.zero,vt.zero)
def avl(P:aT)(s:AS)(dst:Option Tmp)(T:TypeId)(m:aC):Out AS:=
 match mapOf P T,m,dst with
 |some (_,_,kt,vt),.cI id ver,av q=>(s.vM id ver kt vt).bind λl=> .guard (s.wh id && s.eS q)
   (.ok (((s.bq id (.obj ver aZ (.mp kt vt l))).born q [.obj 0 aQ (.uE id (ver+1) kt vt l aD)]).put dst (.ptr (.new q 0) 0 [] 0)))
 |_,_,_=> .fail
structure ayS where
 i:Id
 v:Nat
 fr:Bool
 q:Id
 vr:Nat
 kt:Ty
 vt:Ty
 rest:List (kt.den×vt.den)
 cur:Option (kt.den×vt.den)
def AS.aHH(s:AS)(x:aC):Option ayS:=
 match x with
 | .ptr i ver [] 0=>match s.obj i with
  |some (v,fr,.uE q (vr+1) kt vt rest cur)=>match v==ver,s.apD q vr with
   |true,aZ=>av ⟨i,v,fr,q,vr,kt,vt,rest,cur⟩
   |_,_=>aD
  |_=>aD
 |_=>aD
def atH(s:AS)(x:aC):Out aC:=
 match s.aHH x with
 |some ⟨_,_,_,_,_,kt,vt,_,av c⟩=> .ok (.cons (.d kt c.1) (.cons (.d vt c.2) .nil))
 |_=> .fail
def AS.drawn(s:AS)(t:ayS)(dst:Option Tmp)(j:Nat):AS:=(s.bq t.i (.obj t.v t.fr (.uE t.q (t.vr+1) t.kt t.vt (t.rest.eraseIdx j) (av (AR t.kt t.vt t.rest j))))).put dst (.cons (.d .bool aZ) (.cons (.d t.kt (AR t.kt t.vt t.rest j).1) (.cons (.d t.vt (AR t.kt t.vt t.rest j).2) .nil)))
def AS.unlock(s:AS)(id:Id):AS:=match s.obj id with | some (v,_,c)=>s.bq id (.obj v aQ c) | none=>s
def AS.aN8(s:AS)(t:ayS)(dst:Option Tmp):Option AS:=
 match(s.bq t.i (.obj t.v t.fr (.uE t.q 0 t.kt t.vt [] aD))).adP t.q with
 |false=>av (((s.bq t.i (.obj t.v t.fr (.uE t.q 0 t.kt t.vt [] aD))).unlock t.q).put dst (.cons (.d .bool aQ) .nil))
 |true=>aD
open Classical in
def aGr{R:Type}(n:Nat)(k:Nat->Option R):Option R:=if h:∃r,0 < n/\∀j,j < n->k j=av r then av h.choose else aD
open Classical in
def abp{X R:Type}(S:X->Prop)(k:X->Option R):Option R:=if h:∃r,(∃x,S x)/\∀x,S x->k x=av r then av h.choose else aD
def aIt{R:Type}(s:AS)(dst:Option Tmp)(t:ayS)(k:AS->Option R):Option R:=
 aL (decide (0 < t.rest.length)) (aGr t.rest.length λj=>k (s.drawn t dst j)) (match s.aN8 t dst with | some s'=>k s' | none=>aD)
def AS.axT(s:AS)(ids:List Id):Bool:=ids.all λid=>(s.obj id).isSome && s.VA id
def AS.aGC{R:Type}(s:AS)(en:Entry)(dst:Option Tmp)(ids:List Id)(vs:List aC)(k:AS->Option R):Option R:=abp (en.set (vs.map (aC.jB (s.yV ids))) (ids.map (s.nY ids))) λx=>((en.sp x).bind λx=>s.back ids dst (en.out (vs.map (aC.jB (s.yV ids))) (ids.map (s.nY ids)) x)).run k
def AS.anT{R:Type}(s:AS)(en:Entry)(dst:Option Tmp)(vs:List aC)(k:AS->Option R):Option R:=((s.conv en.params vs).bind λr=> .guard ((s.bG r.2).axT ((s.bG r.2).aib r.1)) (.ok r)).run λr=>(s.bG r.2).aGC en dst ((s.bG r.2).aib r.1) r.1 k
def AS.aPq{R:Type}(s:AS)(en:Entry)(dst:Option Tmp)(vs:List aC)(k:AS->Option R):Option R:=
 match en.rel with | true=>s.anT en dst vs k | false=>(s.call en dst vs).run k
def yB:Nat:=4294967296
def sm(P:aT)(Γ:pO)(bT:List Nat)(o:Oper)(s:AS):Out AS:=
 match o.op with
 | .move x=> .ok (s.put o.dst (s.ev x))
 | .assign x=> .ok (s.put o.dst (s.ev x))
 | .pick c a b=>(aye (s.ev c) (s.ev a) (s.ev b)).bind λv=> .ok (s.put o.dst v)
 | .alloc T=>match zeroOf P depth T,o.dst with
  |some z,av q=> .guard (s.eS q && am0 P T z) (.ok ((s.born q [.obj 0 aQ (boxed P T z)]).put o.dst (.ptr (.new q 0) 0 [] 0)))
  |_,_=> .fail
 | .box T x=>anL P s (isObj bT o.dst) (aue bT o.dst) o.dst T (s.ev x)
 | .build T parts=>Jv P s o.dst T parts.toList
 | .buildSlice T n parts=>nU P s (aAW bT o.dst) (isObj bT o.dst) o.dst T n parts.toList
 | .load T x=>(Sx P s T (s.ev x)).bind λv=> .ok (s.put o.dst v)
 | .store T x v=>(Lj P s T (s.ev x) (s.ev v)).bind λs'=> .ok (s'.put o.dst .undef)
 | .nilCheck x=>match s.ev x with
  | .ptr id v p n=> .ok (s.put o.dst (.ptr id v p n))
  | .dV t y=> .ok (s.put o.dst (.dV t y))
  | .d (.vC t) y=> .get (y:Option t.den) λy=> .ok (s.put o.dst (.dV t y))
  | .fn f c=> .ok (s.put o.dst (.fn f c))
  |_=> .fail
 | .binOp op T x y _=>match s.ev x,s.ev y with
  | .ptr i v [] 0,.ptr j w [] 0=>(aSG P s T op i v j w).bind λv=> .ok (s.put o.dst v)
  |_,_=>(aQo P T op (s.ev x) (s.ev y)).bind λv=> .ok (s.put o.dst v)
 | .unOp op _ x=>(aVn op (s.ev x)).bind λv=> .ok (s.put o.dst v)
 | .convert src dst x=>match src==dst,s.ev x with
  |true,.bE id ver [] 0 0 len=>aod P s o.dst src dst id ver len
  |_,.ptr id ver [] 0=>(ahF P s src dst id ver).bind λv=> .ok (s.put o.dst v)
  |_,_=>(ahE P s (isObj bT o.dst) src dst (s.ev x)).bind λv=> .ok (s.put o.dst v)
 | .sliceToArrayPointer T x=>QA P s o.dst T (s.ev x)
 | .makeFunc (.func f) first caps=> .guard (first.isEmpty && BL (tT s caps.toList)) (.ok (s.put o.dst (.fn f (tT s caps.toList))))
 | .makeSlice T l c=>(asInt (s.ev l)).bind λl=>(asInt (s.ev c)).bind λc=>ui P s o.dst T l c
 | .slice T x lo hi aD=>(Le P s T (s.ev x) lo hi).bind λv=> .ok (s.put o.dst v)
 | .slice T x lo (av h) (av m)=>(TJ P s T (s.ev x) lo h m).bind λv=> .ok (s.put o.dst v)
 | .fieldAddr T x f=>(G2 P T (s.ev x) f).bind λv=> .ok (s.put o.dst v)
 | .field T x f=>(akG P T (s.ev x) f).bind λv=> .ok (s.put o.dst v)
 | .indexAddr T x i=>(asInt (s.ev i)).bind λi=>(ud P s T (s.ev x) i).bind λv=> .ok (s.put o.dst v)
 | .index T x i=>(asInt (s.ev i)).bind λi=>(ak2 P T (s.ev x) i).bind λv=> .ok (s.put o.dst v)
 | .extract x i=>(Out.opt ((s.ev x).list[i]?)).bind λv=> .ok (s.put o.dst v)
 | .makeMap T aD=>J8 P s o.dst T
 | .lookup T x i ok=>(Ha P s T (s.ev x) (s.ev i) ok).bind λv=> .ok (s.put o.dst v)
 | .mapUpdate T m k x=>(Hf P s T (s.ev m) (s.ev k) (s.ev x)).bind λs'=> .ok (s'.put o.dst .undef)
 | .call c=>match c.callee with
  | .builtin .delete=>match c.args.toList,c.argTypes.toList with
   |[m,k],[T,_]=>(He P s T (s.ev m) (s.ev k)).bind λs'=> .ok (s'.put o.dst .nil)
   |_,_=> .fail
  | .builtin .copy=>match c.args.toList,c.argTypes.toList with
   |[x,y],[T,X]=>aa4 P s o.dst T X (s.ev x) (s.ev y)
   |_,_=> .fail
  | .builtin .len=>match c.args.toList,c.argTypes.toList with
   |[x],[T]=>(aNG P T (s.ev x)).bind λv=> .ok (s.put o.dst v)
   |_,_=> .fail
  | .builtin .append=>match c.args.toList,c.argTypes.toList with
   |[x,y],[T,X]=>match s.ev x,s.ev y with
    | .dy,.d (.int _) n=>ao3 P s o.dst T X n
    |_,_=>zJ P s (aAW bT o.dst) (aue bT o.dst) o.dst T X (s.ev x) (s.ev y)
   |_,_=> .fail
  | .builtin .cap=>match c.args.toList,c.argTypes.toList with
   |[x],[T]=>match s.ev x,P.underlying T with
    | .dy,av (.slice _)=> .ok (s.put o.dst (.d (.int .i64) (0:Int)))
    |_,_=> .fail
   |_,_=> .fail
  | .builtin .max=>(aBm aZ (c.args.toList.map s.ev)).bind λv=> .ok (s.put o.dst v)
  | .builtin .min=>(aBm aQ (c.args.toList.map s.ev)).bind λv=> .ok (s.put o.dst v)
  | .builtin .unsafeSliceData=>match c.args.toList with
   |[x]=>match s.ev x with
    | .bE id ver [] 0 0 len=> .wI (decide (0 < len)) (.ok (s.put o.dst (.ptr id ver [.idx 0] 0)))
    |_=> .fail
   |_=> .fail
  | .builtin .unsafeString=>match c.args.toList,c.argTypes.toList with
   |[x,y],[T,_]=>match s.ev x,s.ev y with
    | .ptr id ver [.idx 0] 0,.d (.int .i64) n=>arL P s o.dst T id ver n
    |_,_=> .fail
   |_,_=> .fail
  | .value f=>match s.ev f with
   | .fn f caps=>match Γ f (c.args.toList.map s.ev++caps.list) with
    |some en=> .guard (Nat.blt f yB) (s.call en o.dst (c.args.toList.map s.ev++caps.list))
    |none=> .fail
   |_=> .fail
  |_=> .fail
 |_=> .fail
def ZV(xs:Array bU):List Nat:=xs.toList.filterMap λ | .tmp t=>av t | _=>aD
def Vh(ops:Array Oper)(o:Oper):List Nat:=
 match o.guard with
 |some (j,_)=>match(ops[j]?).bind (·.dst) with | some t=> [t] | none=> []
 |none=> []
def aM2{R:Type}(P:aT)(Γ:pO)(bT:List Nat)(ops:Array Oper)(o:Oper)(s:AS)(k:AS->Option R):Option R:=
 match o.guard with
 |none=>(sm P Γ bT o s).run k
 |some (j,want)=>match(ops[j]?).bind (·.dst) with
  |some q=>match s.slot q with
   | .d .bool b=>match want with
    |true=>aL b ((sm P Γ bT o (s.put (av q) (.d .bool aZ))).run k) (k ((s.put (av q) (.d .bool aQ)).put o.dst .nil))
    |false=>aL b (k ((s.put (av q) (.d .bool aZ)).put o.dst .nil)) ((sm P Γ bT o (s.put (av q) (.d .bool aQ))).run k)
   | .nil=>k (s.put o.dst .nil)
   |_=>aD
  |none=>aD
def ac0(s:AS)(x y:bU):Option Nat:=
 match s.ev x,s.ev y with
 | .d (.slice t) l,.dy=>av (l:List t.den).length
 | .dy,.d (.slice t) l=>av (l:List t.den).length
 | .bE _ _ _ _ _ len,.dy=>av len
 | .dy,.bE _ _ _ _ _ len=>av len
 |_,_=>aD
open Classical in
def nd{R:Type}(x y:Option R):Option R:=if x=y then x else aD
def Yj:Code->List (Array Tmp×Code×Code)
 | .seq a b=>Yj a++Yj b
 | .cond _ a b=>Yj a++Yj b
 | .block _ b=>Yj b
 | .scope b=>Yj b
 | .loop b=>Yj b
 | .rangeFunc _ ps as b=> [(ps,as,b)]
 |_=> []
def aW0(fn:Func)(i y:Nat):wV:=match fn.body with
 |some c=>match(Yj c)[i]? with
  |some x=>⟨y,x.1,x.2.1,x.2.2⟩
  |none=>⟨y,#[],.skip,.skip⟩
 |none=>⟨y,#[],.skip,.skip⟩
def sw(P:aT)(y:Nat):wV:=match P.funcs[y%yB / 16]? with
 |some fn=>aW0 fn (y%16) y
 |none=>⟨y,#[],.skip,.skip⟩
open Classical in
def same{R:Type}(c c':wV)(x:Option R):Option R:=if c=c' then x else aD
def AS.yielded(s:AS)(F:aC)(n:Nat):Option (Id×Nat×wV×aC):=
 match F with
 | .yl id ver=>match s.obj id with
  |some (v,aQ,.sS c f 0)=>match v==ver && n==c.ps.size && Nat.ble yB c.y with
   |true=>av (id,ver,c,f)
   |false=>aD
  |_=>aD
 |_=>aD
def aP4(Γ:pO)(F:aC)(vs:List aC):Option (Entry×List aC):=
 match F with
 | .fn f caps=>match Γ f (vs++caps.list) with
  |some en=>match en.rel && Nat.blt f yB with | true=>av (en,vs++caps.list) | false=>aD
  |none=>aD
 |_=>aD
def aM3{R:Type}(P:aT)(Γ:pO)(bT:List Nat)(ops:Array Oper)(o:Oper)(s:AS)(k:AS->Option R):Option R:=
 match o.guard,o.op with
 |none,.binOp .eql T x y _=>match ac0 s x y,C3.isSl P T with
  |some n,aZ=>aL (decide (0 < n)) (k (s.put o.dst (.d .bool aQ))) (nd (k (s.put o.dst (.d .bool aZ))) (k (s.put o.dst (.d .bool aQ))))
  |_,_=>aM2 P Γ bT ops o s k
 |none,.binOp .neq T x y _=>match ac0 s x y,C3.isSl P T with
  |some n,aZ=>aL (decide (0 < n)) (k (s.put o.dst (.d .bool aZ))) (nd (k (s.put o.dst (.d .bool aZ))) (k (s.put o.dst (.d .bool aQ))))
  |_,_=>aM2 P Γ bT ops o s k
 |none,.range T m=>(avl P s o.dst T (s.ev m)).run k
 |none,.entry x=>((atH s (s.ev x)).bind λv=> .ok (s.put o.dst v)).run k
 |none,.next x aQ=>match s.aHH (s.ev x) with
  |some t=>aIt s o.dst t k
  |none=>aD
 |none,.call c=>match c.callee with
  | .value F=>match s.yielded (s.ev F) c.args.size with
   |some (id,ver,rc,f)=>match Γ rc.y (.yl id ver::(c.args.toList.map s.ev++f.list)) with
    |some en=>same rc (sw P rc.y) ((s.call en o.dst (.yl id ver::(c.args.toList.map s.ev++f.list))).run k)
    |none=>aD
   |none=>match aP4 Γ (s.ev F) (c.args.toList.map s.ev) with
    |some (en,vs)=>s.anT en o.dst vs k
    |none=>aM2 P Γ bT ops o s k
  |_=>aM2 P Γ bT ops o s k
 |_,_=>aM2 P Γ bT ops o s k
def seen{α R:Type}(l:List α):(List α->R)->R:=List.rec (motive:=λ_=>(List α->R)->R) (λk=>k []) (λx _ ih k=>ih λl'=>k (x::l')) l
theorem TB{α R:Type}:∀(l:List α) (k:List α->R),seen l k=k l
 |[],_=>rfl
 |_::l,k=>TB l _
def AS.seen{R:Type}(s:AS)(k:AS->R):R:=Go.Ab.seen s.cM λl=>k ⟨l,s.cz,s.news⟩
theorem AS.TB{R:Type}(s:AS)(k:AS->R):s.seen k=k s:=Go.Ab.TB _ _
def aM4{R:Type}(P:aT)(Γ:pO)(bT:List Nat)(ops:Array Oper):List Oper->AS->(AS->Option R)->Option R
 |[],s,k=>k s
 |o::l,s,k=>aM3 P Γ bT ops o s λs'=>s'.seen λs'=>aM4 P Γ bT ops l s' k
def ajy(acc:List Nat)(o:Oper):Nat:=(o.after.toList.filter (Region.binds .any)).foldr (λe m=>Nat.lor (Nat.lor (Nat.pow 2 e.on) (acc.getD e.on 0)) m) 0
def ank(ops:List Oper):List Nat:=ops.foldl (λacc o=>acc++ [ajy acc o]) []
structure Jh where
 dst:Option Tmp
 cM:List Nat
 rs:List Id
 ws:List Id
def aie:Op->Bool
 | .move _=>aZ
 |_=>aQ
def ap9(s:AS)(o:Oper):List Id:=match aie o.op with | true=> [] | false=>(ZV o.op.operands).flatMap λi=>(s.slot i).ids
def xO:List (Option Ty)->List aC->List Id
 |none::ps,v::vs=>v.ids++xO ps vs
 |some _::ps,_::vs=>xO ps vs
 |_,_=> []
def writes(Γ:pO)(s:AS)(o:Oper):List Id:=
 match o.op with
 | .store _ x _=>(s.ev x).ids
 | .mapUpdate _ m _ _=>(s.ev m).ids
 | .convert src dst x=>match src==dst with | true=>(s.ev x).ids | false=> []
 | .call c=>match c.callee with
  | .builtin .append=>match c.args.toList with | x::_=>(s.ev x).ids | []=> []
  | .builtin .delete=>match c.args.toList with | x::_=>(s.ev x).ids | []=> []
  | .builtin .copy=>match c.args.toList with | x::_=>(s.ev x).ids | []=> []
  | .builtin .unsafeString=>match c.args.toList with | x::_=>(s.ev x).ids | []=> []
  | .value F=>match s.ev F with
   | .fn f caps=>match Γ f (c.args.toList.map s.ev++caps.list) with
    |some en=>s.reach 64 (xO en.params (c.args.toList.map s.ev++caps.list)) []
    |none=> []
   |_=> []
  |_=> []
 |_=> []
def iM(Γ:pO)(ops:Array Oper)(s:AS)(o:Oper):Jh:= {dst:=o.dst,cM:=ZV o.op.operands++Vh ops o,rs:=ap9 s o++writes Γ s o,ws:=writes Γ s o}
def meets(xs ys:List Id):Bool:=xs.any λx=>ys.any λy=>decide (x=y)
def Jh.aTQ(f g:Jh):Bool:=
 match f.dst with
 |some t=>(g.cM.any λx=>decide (x=t)) || decide (g.dst=av t)
 |none=>aQ
def aer(d:Option Tmp)(ids:List Id):Bool:=
 match d with
 |some q=>ids.any λx=>match x with | .new i _=>decide (i=q) | .bt _=>aQ
 |none=>aQ
def Jh.indep(f g:Jh):Bool:= !f.aTQ g && !g.aTQ f && !meets f.ws g.rs && !meets g.ws f.rs && !aer f.dst g.rs && !aer g.dst f.rs
def ahY{R:Type}(P:aT)(Γ:pO)(bT:List Nat)(ops:Array Oper)(anc:List Nat):Nat->List Oper->List (Nat×Jh)->AS->(AS->Option R)->Option R
 |_,[],_,s,k=>k s
 |i,o::l,fs,s,k=>
  match fs.all λx=>(anc.getD i 0).testBit x.1 || x.2.indep (iM Γ ops s o) with
  |true=>aM2 P Γ bT ops o s λs'=>s'.seen λs'=>ahY P Γ bT ops anc (i+1) l ((i,iM Γ ops s o)::fs) s' k
  |false=>aD
def aku(ops:List Oper):Bool:=ops.zipIdx.all λx=>x.1.after.toList.all λe=> !Region.binds .any e || decide (e.on < x.2)
structure aEm where
 j:Nat
 p:List MK
 q:Nat
 T:TypeId
structure aUR where
 j:Nat
 p:List MK
 t:Ty
structure pE where
 ba:List Nat:=[]
 sites:List Nat:=[]
 axA:List Id:=[]
 data:List (Nat×Ty):=[]
 owns:List aEm:=[]
 MN:List aUR:=[]
 aVe:List Nat:=[]
 aQz:List Id:=[]
 aXz:List Nat:=[]
 aYg:List Nat:=[]
 as3:List (Nat×Nat):=[]
 aD9:Option Nat:=aD
structure dI where
 X:Type
 run:AS->Option X
 out:X->Out (Exit×AS)
 set:Option (AS->X->Prop):=aD
structure pP where
 an:pE
 X:Type
 axO:Exit->AS->Option X
 out:X->Out (Exit×AS)
 ok:∀e s x,axO e s=av x->(out x).eval=av (e,s)
structure yx where
 bT:List Nat:=[]
 loops:Nat->pE:=λ_=> {}
 outs:Nat->Bool->pE:=λ_ _=> {}
 gf:Nat->Option dI:=λ_=>aD
 owns:List aEm:=[]
 trim:List Nat:=[]
 res:List (Option Ty):=[]
 MN:List aUR:=[]
 aPS:Nat->Option pP:=λ_=>aD
 apt:Nat->Option pP:=λ_=>aD
 rf:Nat->Option (Nat×List Nat):=λ_=>aD
 aX7:Nat->Option (List aEm):=λ_=>aD
 mY:Option Nat:=aD
 as3:List (Nat×Nat):=[]
def ee:Code->Nat
 | .region id _ _=>id
 | .seq a _=>ee a
 | .block _ b=>ee b
 | .loop b=>ee b
 | .scope b=>ee b
 | .cond _ a b=>match ee a with | 0=>ee b | n=>n
 |_=>0
def fo(ba:List Nat):Nat->List aC->List aC
 |_,[]=> []
 |i,v::vs=>(match ba.any (λx=>decide (x=i)) with | true=>v | false=> .undef)::fo ba (i+1) vs
def po(ba:List Nat):Nat->List (List dW)->List (List dW)
 |_,[]=> []
 |i,v::vs=>(match ba.any (λx=>decide (x=i)) with | true=>v | false=> [])::po ba (i+1) vs
def aC.head:aC->Option (Id×Nat)
 | .bE id ver [] 0 0 _=>av (id,ver)
 | .ptr id ver [] 0=>av (id,ver)
 |_=>aD
def Tf(es:List dW)(b q:Nat)(i:Id)(ver:Nat):Option (Id×Nat):=
 match i with
 | .bt k=>av (.bt k,ver)
 | .new x j=>match decide (x=b) with
  |true=>(match es[j]? with | some (.obj v _ _)=>(match ver==v with | true=>av (.new q j,0) | false=>aD) | _=>aD)
  |false=>(match decide (x=q) with | true=>aD | false=>av (.new x j,ver))
def dW.avv(ρ:Id->Nat->Option (Id×Nat)):dW->dW
 | .obj _ fr c=> .obj 0 fr (c.jB ρ)
 | .dead=> .dead
def aC.aCy(ρ:Id->Nat->Option (Id×Nat))(kp:Id->Bool):aC->aC
 | .uE q ver k v rest cur=>match kp q with | true=> .uE q ver k v rest cur | false=> .uE q 0 k v rest cur
 |c=>c.jB ρ
def dW.agv(ρ:Id->Nat->Option (Id×Nat))(kp:Id->Bool):dW->dW
 | .obj v fr c=> .obj v fr (c.aCy ρ kp)
 | .dead=> .dead
def Mo(b q:Nat):Id->Bool | .bt _=>aZ | .new x _=> !decide (x=b) && !decide (x=q)
def AS.KS(s:AS)(b q:Nat)(es:List dW):AS:= {cM:=s.cM.map (aC.jB (Tf es b q)),cz:=s.cz.map (dW.agv (Tf es b q) (Mo b q)),news:=((s.news.map λes'=>es'.map (dW.agv (Tf es b q) (Mo b q))).set b []).set q (es.map (dW.avv (Tf es b q)))}
def AS.at(s:AS)(j:Nat):List MK->Out aC
 |[]=> .ok (s.slot j)
 |p=>match s.slot j with
  | .ptr id ver p0 _=>match s.obj id with
   |some (v,_,c)=> .guard (v==ver) ((loc c.strip (p0++p)).bind λr=> .ok r.2)
   |none=> .fail
  |_=> .fail
def AS.putAt(s:AS)(j:Nat)(v:aC):List MK->Out AS
 |[]=> .ok (s.put (av j) v)
 |p=>match s.slot j with
  | .ptr id _ p0 _=>match s.obj id with
   |some (ver,fr,c)=>match c.strip with
    | .vec .. => .fail
    |c1=>(zH c1 (p0++p) v).bind λc'=> .ok (s.bq id (.obj ver fr (c.wrap c')))
   |none=> .fail
  |_=> .fail
def AS.still(s:AS):List Nat->AS
 |[]=>s
 |q::l=>(match s.obj (.new q 0) with | some (v,fr,.uE i ver k t r _)=>s.bq (.new q 0) (.obj v fr (.uE i ver k t r aD)) | _=>s).still l
def aiy(α:Type):Setoid (List α):=⟨List.Perm,iX,List.Perm.symm,List.Perm.trans⟩
def jF{α:Type}(l:List α):List α:=(sk (Quotient.mk (aiy α) l)).choose
def AS.canon(s:AS):List Id->AS
 |[]=>s
 |id::l=>(match s.obj id with | some (v,fr,.mp k t r)=>s.bq id (.obj v fr (.mp k t (jF r))) | _=>s).canon l
def Xk(s:AS):List aUR->Out AS
 |[]=> .ok s
 |o::l=>match o.p,s.slot o.j with
  |_::_,.sq=>Xk s l
  |_,_=>(s.at o.j o.p).bind λu=>(s.jT o.t u).bind λx=>((s.bG u.shared).putAt o.j (.d o.t x) o.p).bind λs'=>Xk s' l
def RU:(t:Ty)->t.den->Out aC
 | .iT t,x=> .wI (x:Option (List t.den)).isNone (.ok .dy)
 | .pair a b,x=>(RU a x.1).bind λu=>(RU b x.2).bind λv=> .ok (SH u v)
 |t,x=> .ok (.d t x)
def aAr(s:AS):List Nat->Out AS
 |[]=> .ok s
 |j::l=>match s.slot j with
  | .ptr id ver (.idx k::p) n=>match s.obj id with
   |some (v,aQ,.vec e t r)=> .guard (v==ver) (.wI (decide (k < r.length)) ((RU t (nth t r k)).bind λu=>
     aAr ((s.bq id (.obj v aQ (.bx e t.size (.pr (.d (.arr k t) (r.take k)) (.pr u (.d (.arr (r.drop (k+1)).length t) (r.drop (k+1)))))))).put (av j) (.ptr id ver (.snd:: .fst::p) n)) l))
   |_=> .fail
  | .ptr _ _ (.snd::_) _=>aAr s l
  |_=> .fail
def aKW(s:AS):List Nat->Out AS
 |[]=> .ok s
 |j::l=>match s.slot j with
  | .ptr id ver (.snd:: .fst::p) n=>match s.obj id with
   |some (v,aQ,.bx e z (.pr (.d (.arr k t) l1) (.pr u (.d (.arr _ t') l2))))=> .guard ((v==ver) && (z==t.size) && !(z==0) && !(u.shared.any λi=>decide (i=id)))
     ((Out.opt (wZ (.slice t') (.slice t) l2)).bind λl2=>(s.jT t u).bind λx=>
      aKW (((s.bG u.shared).bq id (.obj v aQ (.vec e t (l1++x::l2)))).put (av j) (.ptr id ver (.idx k::p) n)) l)
   |_=> .fail
  |_=> .fail
def xX(P:aT)(s:AS):List aEm->Out AS
 |[]=> .ok s
 |o::l=>match o.p,s.slot o.j with
  |_::_,.sq=>xX P s l
  |_,_=>(s.at o.j o.p).bind λu=>match u with
  | .dy=>match akv P o.T,s.eS o.q with
   |some (e,t,_),aZ=>((s.born o.q [.obj 0 aQ (.vec e t [])]).putAt o.j (.bE (.new o.q 0) 0 [] 0 0 0) o.p).bind λs'=>xX P s' l
   |_,_=> .fail
  |u=>match u.head with
   |some (.new b j,ver)=>match s.obj (.new b j),decide (o.q < s.news.length) with
    |some (v,_,_),aZ=>match v==ver with
     |true=>xX P (s.KS b o.q (s.news.getD b [])) l
     |false=> .fail
    |_,_=> .fail
   |_=> .fail
def ajd(s:AS):List Nat->Out AS
 |[]=> .ok s
 |j::l=>match s.slot j with
  | .bE id ver [] 0 0 len=>match s.obj id with
   |some (v,aQ,.vec e t r)=>match v==ver with
    |true=> .wI (decide (len<=r.length)) (ajd (s.bq id (.obj v aQ (.vec e t (r.take len)))) l)
    |false=> .fail
   |_=> .fail
  |_=> .fail
def asData(s:AS):List (Nat×Ty)->Out AS
 |[]=> .ok s
 | (j,t)::l=>(s.jT t (s.slot j)).bind λx=>asData ((s.bG (s.slot j).shared).put (av j) (.d t x)) l
def aC.there(s:AS):aC->Bool
 | .ptr id _ _ _=>(s.obj id).isSome
 | .bE id _ _ _ _ _=>(s.obj id).isSome
 | .pr a b=>a.there s && b.there s
 | .cons a b=>a.there s && b.there s
 | .fn _ c=>c.there s
 | .bx _ _ c=>c.there s
 | .cI id _=>(s.obj id).isSome
 | .yl id _=>(s.obj id).isSome
 | .sS _ f _=>f.there s
 | .uE .. =>aQ
 |_=>aZ
def dW.there(s:AS):dW->Bool
 | .obj _ _ (.uE id _ _ _ _ _)=>(s.obj id).isSome
 | .obj _ _ c=>c.there s
 | .dead=>aZ
def Sk(an:pE)(s:AS):AS:= {cM:=fo an.ba 0 s.cM,cz:=s.cz,news:=po an.sites 0 s.news}
def AS.ang(s:AS):Bool:=(s.cM.all (aC.there s)) && (s.cz.all (dW.there s)) && (s.news.all λes=>es.all (dW.there s))
def wO(k v n:Nat)(i:Id)(ver:Nat):Option (Id×Nat):=match i with
 | .bt j=>match ju j k with
  |true=>match ju ver v with | true=>av (.bt j,n) | false=>aD
  |false=>av (.bt j,ver)
 |i=>av (i,ver)
def JX(k:Nat):Id->Bool | .bt j=> !ju j k | _=>aZ
def dW.avw(ρ:Id->Nat->Option (Id×Nat))(kp:Id->Bool):dW->dW
 | .obj v fr c=> .obj v fr (c.aCy ρ kp)
 | .dead=> .dead
def AS.aFg(s:AS)(k n:Nat):Out AS:=match s.cq (.bt k) with
 |some (.obj v fr c)=> .guard (Nat.ble v n || Nat.ble 1 n) (.ok {cM:=s.cM.map (aC.jB (wO k v n)),cz:=(s.cz.map (dW.avw (wO k v n) (JX k))).set k (.obj n fr (c.jB (wO k v n))),news:=s.news.map λes=>es.map (dW.avw (wO k v n) (JX k))})
 |_=> .fail
def anR(s:AS):List (Nat×Nat)->Out AS
 |[]=> .ok s
 |x::l=>(s.aFg x.1 x.2).bind λs=>anR s l
def AS.aTp(s:AS):List Id:=(s.reach 64 (s.cM.flatMap aC.ids++s.cz.flatMap dW.ids) []).filter λid=>match id with | .new _ _=>aZ | .bt _=>aQ
def aAz(s:AS)(ids:List Id)(q:Nat):Id->Nat->Option (Id×Nat)
 | .bt k,ver=>av (.bt k,ver)
 | .new x y,ver=>match idxOf (.new x y) ids,s.obj (.new x y) with
  |some j,av (v,_,_)=>match ver==v with | true=>av (.new q j,0) | false=>aD
  |_,_=>aD
def dW.aJr(ρ:Id->Nat->Option (Id×Nat)):dW->dW
 | .obj v fr c=> .obj v fr (c.jB ρ)
 | .dead=> .dead
def AS.JP(s:AS)(ids:List Id)(q:Nat):AS:= {cM:=s.cM.map (aC.jB (aAz s ids q)),cz:=s.cz.map (dW.aJr (aAz s ids q)),news:=(s.news.map λ_=> []).set q (ids.map λid=>((s.cq id).getD .dead).avv (aAz s ids q))}
def AS.akL(s:AS):Option Nat->Out AS
 |none=> .ok s
 |some q=> .guard (Nat.blt q s.news.length) (.ok (s.JP s.aTp q))
def norm(P:aT)(an:pE)(s:AS):Out AS:=(anR s an.as3).bind λs=>(aKW (((s.bG an.axA).still an.aVe).canon an.aQz) an.aYg).bind λs=>(Xk s an.MN).bind λs=>(asData s an.data).bind λs=> .guard (Sk an s).ang ((aAr (Sk an s) an.aXz).bind λs=>(xX P s an.owns).bind λs=>s.akL an.aD9)
def XI{R:Type}(nrm:AS->Out AS)(nrmX:Exit->AS->Out AS)(body:AS->(Exit->AS->Option R)->Option R):Nat->AS->(Exit->AS->Option R)->Option R
 | 0,_,_=>aD
 |n+1,s,k=>body s λe s'=>match e with
  | .normal=>(nrm s').run λs1=>XI nrm nrmX body n s1 k
  |e=>(nrmX e s').run (k e)
def aps:Exit->Bool | .ret=>aZ | _=>aQ
def aKY{R:Type}(le:dI)(s:AS)(k:Exit->AS->Option R):Option R:=
 match le.set with
 |none=>al (le.run s) λx=>(le.out x).run λr=>k r.1 r.2
 |some S=>abp (S s) λx=>(le.out x).run λr=>k r.1 r.2
def Vv{R:Type}(P:aT)(j:Option pP)(run: {R:Type}->(Exit->AS->Option R)->Option R)(k:Exit->AS->Option R):Option R:=
 match j with
 |none=>run k
 |some j=>al (run λe s=>(norm P j.an s).run (j.axO e)) λx=>(j.out x).run λr=>k r.1 r.2
def nw:List aC->aC
 |[]=> .nil
 |a::l=> .cons a (nw l)
def aqU(P:aT)(h:fV):Bool:=match P.funcs[h]? with
 |some fn=> !(fn.name== "runtime.NumGoroutine") && fn.body.isSome
 |none=>aQ
def Hy{R:Type}(P:aT)(Γ:pO)(an:yx)(s:AS)(f:bU)(ps:Array Tmp)(as b:Code)(k:Exit->AS->Option R):Option R:=
 match an.mY,an.rf (ps.getD 0 0),s.ev f with
 |none,av (y,ba),.fn h caps=>match aqU P h && s.eS (ps.getD 0 0) && Nat.blt (ps.getD 0 0) s.cM.length && Nat.blt h yB,Γ h (.yl (.new (ps.getD 0 0) 0) 0::caps.list) with
  |true,av en=>((s.born (ps.getD 0 0) [.obj 0 aQ (.sS ⟨y,ps,as,b⟩ (nw (fo ba 0 s.cM)) 0)]).put (av (ps.getD 0 0)) (.yl (.new (ps.getD 0 0) 0) 0)).aPq en aD (.yl (.new (ps.getD 0 0) 0) 0::caps.list) λs3=>
   match s3.cq (.new (ps.getD 0 0) 0),s3.slot (ps.getD 0 0) with
   |some (.obj 0 aQ (.sS _ _ p)),.yl (.new q' 0) 0=>match ju q' (ps.getD 0 0),p with
    |true,0=>k .normal ((s3.bq (.new (ps.getD 0 0) 0) .dead).put (av (ps.getD 0 0)) .undef)
    |true,2=>k .ret ((s3.bq (.new (ps.getD 0 0) 0) .dead).put (av (ps.getD 0 0)) .undef)
    |true,i+3=>k (.exit i) ((s3.bq (.new (ps.getD 0 0) 0) .dead).put (av (ps.getD 0 0)) .undef)
    |_,_=>aD
   |_,_=>aD
  |_,_=>aD
 |_,_,_=>aD
def ev(P:aT)(Γ:pO)(an:yx)(N:Nat):Code-> {R:Type}->AS->(Exit->AS->Option R)->Option R
 | .skip,_,s,k=>k .normal s
 | .region id ops draw,_,s,k=>Vv P (an.aPS id) (λk=>match draw with
  |true=>(match aku ops.toList with
   |true=>ahY P Γ an.bT ops (ank ops.toList) 0 ops.toList [] s λs'=>k .normal s'
   |false=>aD)
  |false=>aM4 P Γ an.bT ops ops.toList s λs'=>k .normal s') k
 | .seq a b,_,s,k=>Vv P (an.apt (ee b)) (λk=>ev P Γ an N a s k) λe s'=>match e with | .normal=>ev P Γ an N b s' k | e=>k e s'
 | .cond c x y,_,s,k=>match s.ev c with
  | .d .bool b=>aL b (ev P Γ an N x s k) (ev P Γ an N y s k)
  |_=>aD
 | .block id b,_,s,k=>ev P Γ an N b s λe s'=>match e with | .exit i=>(match decide (i=id) with | true=>k .normal s' | false=>k (.exit i) s') | e=>k e s'
 | .loop b,_,s,k=>(norm P (an.loops (ee b)) s).run λs1=>match an.gf (ee b) with
  |some le=>aKY le s1 k
  |none=>XI (norm P (an.loops (ee b))) (λe=>norm P (an.outs (ee b) (aps e))) (ev P Γ an N b) N s1 k
 | .scope b,_,s,k=>ev P Γ an N b s λe s'=>match e with | .goto _=>aD | e=>k e s'
 | .label _,_,s,k=>k .normal s
 | .exit id,_,s,k=>k (.exit id) s
 | .ret,_,s,k=>k .ret s
 | .rangeFunc f ps as b,_,s,k=>(xX P s ((an.aX7 (ps.getD 0 0)).getD [])).run λs=>Hy P Γ an s f ps as b k
 |_,_,_,_=>aD
def ad1(P:aT)(s:AS):ResultVar->Out aC
 | .tmp t=> .ok (s.slot t)
 | .cell a T=>Sx P s T (s.slot a)
def adZ(P:aT)(s:AS)(r:ResultVar):Option Ty->Out (AS×aC)
 |none=>(ad1 P s r).bind λv=> .ok (s,v)
 |some t=>(ad1 P s r).bind λv=>(s.jT t v).bind λx=> .ok (s.bG v.shared,.d t x)
def Ti(P:aT)(s:AS):List ResultVar->List (Option Ty)->Out (AS×aC)
 |[],_=> .ok (s,.nil)
 |r::rs,ts=>(adZ P s r (ts.headD aD)).bind λx=> .guard x.2.fA ((Ti P x.1 rs ts.tail).bind λy=> .ok (y.1,.cons x.2 y.2))
def al9(P:aT)(fn:Func)(ts:List (Option Ty))(s:AS):Out (AS×aC):=
 match fn.results.toList with
 |[r]=>adZ P s r (ts.headD aD)
 |rs=>Ti P s rs ts
def kh:Code->List Code
 | .seq a b=>kh a++kh b
 | .cond _ a b=>kh a++kh b
 | .block _ b=>kh b
 | .scope b=>kh b
 | .loop b=>b::kh b
 |_=> []
def qj(fn:Func)(i:Nat):Code:=match fn.body with | some c=>(kh c).getD i .skip | none=> .skip
def Ey(P:aT)(Γ:pO)(an:yx)(N:Nat)(fn:Func)(i:Nat){R:Type}(s:AS)(kn:AS->Option R)(kx:Exit->AS->Option R):Option R:=
 ev P Γ an N (qj fn i) s λe s'=>match e with
  | .normal=>(norm P (an.loops (ee (qj fn i))) s').run kn
  |e=>(norm P (an.outs (ee (qj fn i)) (aps e)) s').run (kx e)
def SD(P:aT)(Γ:pO)(an:yx)(N:Nat)(fn:Func)(i:Nat){R:Type}(n:Nat)(s:AS)(k:Exit->AS->Option R):Option R:=XI (norm P (an.loops (ee (qj fn i)))) (λe=>norm P (an.outs (ee (qj fn i)) (aps e))) (ev P Γ an N (qj fn i)) n s k
def Id.aPQ:Id->Bool | .new _ _=>aZ | .bt _=>aQ
def AS.Vd(s:AS)(v:aC):List Id:=(s.reach 64 (v.ids++s.cz.flatMap dW.ids) []).filter Id.aPQ
def PE(ids:List Id):Id->Nat->Option (Id×Nat)
 | .bt k,v=>av (.bt k,v)
 |id,v=>match idxOf id ids with | some j=>av (.new 0 j,v) | none=>aD
def dW.fin(ids:List Id):dW->dW
 | .obj v fr c=> .obj v fr (c.jB (PE ids))
 | .dead=> .dead
def AS.aPt(s:AS)(ids:List Id)(v:aC):iB:= {val:=v.jB (PE ids),cz:=s.cz.map (dW.fin ids),news:=ids.map λid=>((s.cq id).getD .dead).fin ids}
def AS.fin(s:AS)(v:aC):iB:=s.aPt (s.Vd v) v
def start(fn:Func)(args:List aC)(cz:List dW):AS:= {cM:=args++ab (fn.ntmps - args.length) .undef,cz,news:=ab fn.ntmps []}
def aJt(fn:Func):List Nat:=fn.results.toList.map λr=>match r with | .tmp t=>t | .cell a _=>a
def AS.drop(s:AS)(ks:List Nat):AS:= {cM:=fo ks 0 s.cM,cz:=s.cz,news:=s.news}
def finish(P:aT)(an:yx)(fn:Func)(s:AS):Out iB:=(Xk s an.MN).bind λs=>(xX P (s.drop (aJt fn)) an.owns).bind λs=>(ajd s an.trim).bind λs=>(anR s an.as3).bind λs=>(al9 P fn an.res s).bind λr=> .ok (r.1.fin r.2)
def aPm(P:aT)(y:Nat):Func:= {(default:Func) with body:=av (.seq (sw P y).as (sw P y).b)}
def AS.VY(s:AS)(q p:Nat):Option AS:=match s.cq (.bt 0) with
 |some (.obj 0 aQ (.sS c f q'))=>(match ju q q' with | true=>av (s.bq (.bt 0) (.obj 0 aQ (.sS c f p))) | false=>aD)
 |_=>aD
def A9:List (Tmp×aC)->List aC->List aC
 |[],l=>l
 |x::xs,l=>A9 xs (l.set x.1 x.2)
def aeA(ps:List Tmp)(args:List aC)(cz:List dW):AS:= {cM:=A9 (ps.zip (args.take ps.length)) (args.drop ps.length),cz,news:=ab (args.drop ps.length).length []}
def aPs:Exit->Option Nat
 | .normal=>av 0
 | .ret=>av 2
 | .exit i=>av (i+3)
 |_=>aD
def axy(P:aT)(an:yx)(s:AS)(v:aC):Out iB:=(Xk s an.MN).bind λs=>(xX P (s.drop []) an.owns).bind λs=>(ajd s an.trim).bind λs=>(anR s an.as3).bind λs=> .ok (s.fin v)
def dW.first:dW->Bool
 | .obj v _ _=>ju v 0
 | .dead=>aZ
def aJM(P:aT)(Γ:pO)(an:yx)(N:Nat)(c:wV)(args:List aC)(cz:List dW){R:Type}(k:iB->Option R):Option R:=
 match args with
 | .yl (.bt 0) 0::args=>match cz.all dW.first with | false=>aD | true=>ev P Γ an N c.as (aeA c.ps.toList args cz) λe s=>match e with
  | .normal=>al (s.VY 0 1) λs=>ev P Γ an N c.b s λe s=>al (aPs e) λp=>al (s.VY 1 p) λs=>(axy P an s (.d .bool (ju p 0))).run k
  |_=>aD
 |_=>aD
def anq(P:aT)(Γ:pO)(an:yx)(N:Nat)(fn:Func)(args:List aC)(cz:List dW){R:Type}(k:iB->Option R):Option R:=
 match an.mY with
 |some y=>aJM P Γ an N (sw P y) args cz k
 |none=>match fn.body with
 |some c=>match cz.all dW.first with | false=>aD | true=>ev P Γ an N c (start fn args cz) λe s=>match e with
  | .normal=>(finish P an fn s).run k
  | .ret=>(finish P an fn s).run k
  |_=>aD
 |none=>aD
end Go.Ab
namespace Go.Ab
inductive Own where
 |eY
 |id (i:Id)
inductive np where
 |free
 |own (o:Own) (k:Nat)
structure Pl where
 b:Nat
 cap:Nat
structure Env where
 w:cd
 g:Nat->np
 β:Id->Option Pl
 s:Id->Option dW
def wK(g:Nat->np)(b off:Nat):Prop:=match g b with | .free=>True | .own _ k=>off < k
def Env.has(E:Env)(b off:Nat)(v:Value):Prop:=E.w.cell? ⟨b,off,aD⟩=av v/\wK E.g b off
def bI{α:Type}(R:List Value->α->Prop):List Value->List α->Prop
 |cs,[]=>cs=[]
 |cs,x::xs=>∃c cs',cs=c++cs'/\R c x/\bI R cs' xs
def Ib(E:Env)(a:Option Addr)(vs:List Value):Prop:=∀i v,vs[i]? =av v->∃b off,a=av ⟨b,off,aD⟩/\E.has b (off+i) v
def dA(E:Env):(t:Ty)->List Value->t.den->Prop
 | .int k,cs,x=>cs=[.int k x]
 | .bool,cs,x=>cs=[.bool x]
 | .str,cs,x=>cs=[.string x]
 | .slice t,cs,l=>∃a cap vs,cs=[.slice a (l:List t.den).length cap]/\(l:List t.den).length<=cap/\(0 < (l:List t.den).length->a.isSome=aZ)/\Ib E a vs/\bI (dA E t) vs l
 | .unit,cs,_=>cs=[]
 | .pair a b,cs,x=>∃ca cb,cs=ca++cb/\dA E a ca x.1/\dA E b cb x.2
 | .arr n t,cs,l=>(l:List t.den).length=n/\bI (dA E t) cs l
 | .iT t,cs,x=>((x:Option (List t.den))=aD->cs=[.slice aD 0 0])/\∀l:List t.den,(x:Option (List t.den))=av l->
   ∃a cap vs,cs=[.slice a l.length cap]/\l.length<=cap/\(0 < l.length->a.isSome=aZ)/\Ib E a vs/\bI (dA E t) vs l
 | .vC t,cs,x=>((x:Option t.den)=aD->cs=[.pointer aD])/\∀y:t.den,(x:Option t.den)=av y->
   ∃b off vs,cs=[.pointer (av ⟨b,off,aD⟩)]/\Ib E (av ⟨b,off,aD⟩) vs/\dA E t vs y
section
variable {α:Type} {R R':List Value->α->Prop} {z:Nat}
theorem bI.mono(h:∀c x,R c x->R' c x):∀ {cs:List Value} {l:List α},bI R cs l->bI R' cs l
 |_,[],hc=>hc
 |_,_::_,⟨c,cs',e,hx,hr⟩=>⟨c,cs',e,h _ _ hx,bI.mono h hr⟩
theorem bI.length(h:∀c x,R c x->c.length=z):∀ {cs:List Value} {l:List α},bI R cs l->cs.length=l.length*z
 |cs,[],hc=>by have:cs=[]:=hc;simp[this]
 |_,x::xs,⟨c,cs',e,hx,hr⟩=>by rw[e,ai,h c x hx,bI.length h hr,aB,fe,jj,Nat.add_comm]
theorem bI.all{p:Value->Prop}(h:∀c x,R c x->∀v∈c,p v):∀ {cs:List Value} {l:List α},bI R cs l->∀v∈cs,p v
 |cs,[],hc,v,hv=>by have:cs=[]:=hc;simp[this]at hv
 |_,_::_,⟨c,cs',e,hx,hr⟩,v,hv=>by
  rw[e]at hv;rcases bD.1 hv with hv | hv
  ·exact h _ _ hx v hv
  ·exact bI.all h hr v hv
theorem bI.append:∀ {cs:List Value} {l:List α} {cs':List Value} {l':List α},bI R cs l->bI R cs' l'->bI R (cs++cs') (l++l')
 |cs,[],_,_,hc,h'=>by have:cs=[]:=hc;simpa[this]using h'
 |_,x::xs,_,_,⟨c,cs1,e,hx,hr⟩,h'=>⟨c,cs1++_,by rw[e,aI],hx,bI.append hr h'⟩
theorem bI.take(h:∀c x,R c x->c.length=z):∀ {cs:List Value} {l:List α} (n:Nat),bI R cs l->bI R (cs.take (n*z)) (l.take n)
 |cs,[],n,hc=>by have:cs=[]:=hc;simp[this,bI]
 |_,x::xs,0,_=>by simp[bI]
 |_,x::xs,n+1,⟨c,cs',e,hx,hr⟩=>by refine⟨c,cs'.take (n*z),?_,hx,bI.take h n hr⟩;rw[e,ra,h c x hx,fe,jj,bk (by rw[h c x hx];omega),jC]
theorem bI.drop(h:∀c x,R c x->c.length=z):∀ {cs:List Value} {l:List α} (n:Nat),bI R cs l->bI R (cs.drop (n*z)) (l.drop n)
 |cs,[],n,hc=>by have:cs=[]:=hc;simp[this,bI]
 |_,x::xs,0,hc=>by simpa using hc
 |_,x::xs,n+1,⟨c,cs',e,hx,hr⟩=>by rw[e,kK,h c x hx,fe,jj,dS (by rw[h c x hx];omega),jC];simpa using bI.drop h n hr
theorem bI.get(h:∀c x,R c x->c.length=z){cs:List Value}{l:List α}(hc:bI R cs l)(i:Nat)(hi:i < l.length):R ((cs.drop (i*z)).take z) l[i]:=by have h1:=bI.take h 1 (bI.drop h i hc);rw[aq hi]at h1;simp only[jj,List.take_succ_cons,dZ]at h1;obtain⟨c,cs',e,hx,hr⟩:=h1;have:cs'=[]:=hr;rw[e,this,bm];exact hx
theorem bI.set(h:∀c x,R c x->c.length=z){cs:List Value}{l:List α}(hc:bI R cs l)(i:Nat)(hi:i < l.length){c:List Value}{x:α}(hx:R c x):
  bI R (cs.take (i*z)++c++cs.drop (i*z+c.length)) (l.set i x):=by
 rw[List.set_eq_take_append_cons_drop,if_pos hi,h c x hx];have h1:=bI.take h i hc;have h2:=bI.drop h (i+1) hc;rw[fe,jj]at h2;have h3:bI R (c++cs.drop (i*z+z)) (x::l.drop (i+1)):=⟨c,_,rfl,hx,h2⟩;rw[aI];exact bI.append h1 h3
theorem bI.one{c:List Value}{x:α}(h:R c x):bI R c [x]:=⟨c,[],by simp,h,rfl⟩
end
theorem dA.size{E:Env}:∀ {t:Ty} {cs:List Value} {x:t.den},dA E t cs x->cs.length=t.size
 | .int _,_,_,h=>by simp only[dA]at h;simp[h,Ty.size]
 | .bool,_,_,h=>by simp only[dA]at h;simp[h,Ty.size]
 | .str,_,_,h=>by simp only[dA]at h;simp[h,Ty.size]
 | .slice t,_,_,h=>by simp only[dA]at h;obtain⟨a,cap,vs,rfl,_⟩:=h;simp[Ty.size]
 | .unit,_,_,h=>by simp only[dA]at h;simp[h,Ty.size]
 | .pair a b,_,_,h=>by simp only[dA]at h;obtain⟨ca,cb,rfl,ha,hb⟩:=h;simp[Ty.size,dA.size ha,dA.size hb]
 | .arr n t,_,_,h=>by simp only[dA]at h;rw[bI.length (λc x hx=>dA.size hx) h.2,h.1,Ty.size]
 | .iT t,_,x,h=>by
  simp only[dA]at h;obtain⟨h1,h2⟩:=h;cases hx:(x:Option (List t.den)) with
  |none=>rw[h1 hx];rfl
  |some l=>obtain⟨a,cap,vs,rfl,_⟩:=h2 l hx;rfl
 | .vC t,_,x,h=>by
  simp only[dA]at h;obtain⟨h1,h2⟩:=h;cases hx:(x:Option t.den) with
  |none=>rw[h1 hx];rfl
  |some l=>obtain⟨b,off,vs,rfl,_⟩:=h2 l hx;rfl
theorem dA.one{E:Env}:∀ {t:Ty} {cs:List Value} {x:t.den},dA E t cs x->∀c∈cs,c.oneCell'=aZ
 | .int _,_,_,h=>by simp only[dA]at h;simp[h,dT]
 | .bool,_,_,h=>by simp only[dA]at h;simp[h,dT]
 | .str,_,_,h=>by simp only[dA]at h;simp[h,dT]
 | .slice t,_,_,h=>by simp only[dA]at h;obtain⟨a,cap,vs,rfl,_⟩:=h;simp[dT]
 | .unit,_,_,h=>by simp only[dA]at h;simp[h]
 | .pair a b,_,_,h=>by
  simp only[dA]at h;obtain⟨ca,cb,rfl,ha,hb⟩:=h;intro c hc;rcases bD.1 hc with hc | hc
  ·exact dA.one ha c hc
  ·exact dA.one hb c hc
 | .arr n t,_,_,h=>by simp only[dA]at h;exact bI.all (λc x hx=>dA.one hx) h.2
 | .iT t,_,x,h=>by
  simp only[dA]at h;obtain⟨h1,h2⟩:=h;cases hx:(x:Option (List t.den)) with
  |none=>rw[h1 hx];simp[dT]
  |some l=>obtain⟨a,cap,vs,rfl,_⟩:=h2 l hx;simp[dT]
 | .vC t,_,x,h=>by
  simp only[dA]at h;obtain⟨h1,h2⟩:=h;cases hx:(x:Option t.den) with
  |none=>rw[h1 hx];simp[dT]
  |some l=>obtain⟨b,off,vs,rfl,_⟩:=h2 l hx;simp[dT]
structure va(E E':Env):Prop where
 has:∀b off v,E.has b off v->E'.has b off v
 fz:∀b ob,E.g b= .free->E.w.heap[b]? =av ob->E'.g b= .free/\E'.w.heap[b]? =av ob
theorem va.refl(E:Env):va E E:=⟨λ_ _ _ h=>h,λ_ _ h h'=>⟨h,h'⟩⟩
theorem va.trans{E E' E'':Env}(h:va E E')(h':va E' E''):va E E'':=⟨λb o v x=>h'.has b o v (h.has b o v x),λb ob h1 h2=>let⟨h3,h4⟩:=h.fz b ob h1 h2;h'.fz b ob h3 h4⟩
theorem Ib.mono{E E':Env}(h:va E E'){a:Option Addr}{vs:List Value}(hr:Ib E a vs):Ib E' a vs:=
 λi v hv=>let⟨b,off,ha,hh⟩:=hr i v hv;⟨b,off,ha,h.has _ _ _ hh⟩
theorem dA.mono{E E':Env}(hm:va E E'):∀ {t:Ty} {cs:List Value} {x:t.den},dA E t cs x->dA E' t cs x
 | .int _,_,_,h=>by simpa only[dA]using h
 | .bool,_,_,h=>by simpa only[dA]using h
 | .str,_,_,h=>by simpa only[dA]using h
 | .slice t,_,_,h=>by simp only[dA]at h ⊢;obtain⟨a,cap,vs,e,hl,hs,hr,hc⟩:=h;exact⟨a,cap,vs,e,hl,hs,hr.mono hm,hc.mono λc x hx=>dA.mono hm hx⟩
 | .unit,_,_,h=>by simpa only[dA]using h
 | .pair a b,_,_,h=>by simp only[dA]at h ⊢;obtain⟨ca,cb,e,ha,hb⟩:=h;exact⟨ca,cb,e,dA.mono hm ha,dA.mono hm hb⟩
 | .arr n t,_,_,h=>by simp only[dA]at h ⊢;exact⟨h.1,h.2.mono λc x hx=>dA.mono hm hx⟩
 | .iT t,_,_,h=>by simp only[dA]at h ⊢;refine⟨h.1,λl hx=> ?_⟩;obtain⟨a,cap,vs,e,hl,hs,hr,hc⟩:=h.2 l hx;exact⟨a,cap,vs,e,hl,hs,hr.mono hm,hc.mono λc x hx=>dA.mono hm hx⟩
 | .vC t,_,_,h=>by simp only[dA]at h ⊢;refine⟨h.1,λl hx=> ?_⟩;obtain⟨b,off,vs,e,hr,hc⟩:=h.2 l hx;exact⟨b,off,vs,e,hr.mono hm,dA.mono hm hc⟩
def Env.cur(E:Env)(id:Id)(ver:Nat):Prop:=∃fr c,E.s id=av (.obj ver fr c)
def Env.Ij(E:Env)(id:Id)(ver:Nat):Prop:=E.s id≠aD/\∀v fr c,E.s id=av (.obj v fr c)->ver<=v
def gI(agg:Bool)(cs:List Value)(v:Value):Prop:=match agg with | true=>v= .agg cs.toArray | false=>cs=[v]
mutual
def V(E:Env):aC->List Value->Prop
 | .undef,_=>False
 | .gone,cs=>∃v,cs=[v]/\v.oneCell'=aZ
 | .dy,cs=>cs=[.slice aD 0 0]
 | .sq,cs=>cs=[.pointer aD]
 | .yP,cs=>cs=[.nilFunc]
 | .EB,cs=>cs=[.map aD]
 | .sb l,cs=>∃(b cap:Nat) (arr:Array Value) (e:TypeId),cs=[.slice (av ⟨b,0,aD⟩) l.length cap]/\l.length<=cap/\E.g b= .free/\E.w.heap[b]? =av (.cells arr e (arr.size,arr.size+1))/\∀(j:Nat) (v:Value),(l.map (Value.int .u8))[j]? =av v->arr[j]? =av v
 | .d t x,cs=>dA E t cs x
 | .pr a b,cs=>∃ca cb,cs=ca++cb/\V E a ca/\V E b cb
 | .ptr id ver _ n,cs=>∃a,cs=[.pointer (av a)]/\E.Ij id ver/\(E.cur id ver->∃pl,E.β id=av pl/\a=⟨pl.b,n,aD⟩)
 | .dV t x,cs=>∃b off vs,cs=[.pointer (av ⟨b,off,aD⟩)]/\Ib E (av ⟨b,off,aD⟩) vs/\dA E t vs x
 | .bE id ver p c i len,cs=>∃a cap,cs=[.slice a len cap]/\len<=cap/\(0 < len->a.isSome=aZ)/\E.Ij id ver/\
   (E.cur id ver->match E.β id with
    |some pl=>(0 < len\/i=0->a=av ⟨pl.b,c,aD⟩)/\(p=[]->i=0->cap=pl.cap)
    |none=>a=aD/\len=0/\cap=0)
 | .fn f c,cs=>∃vs,cs=[.func (.func f) #[] vs.toArray]/\VC E c vs
 | .cons _ _,_=>False
 | .nil,_=>False
 | .vec ..,_=>False
 | .bx ..,_=>False
 | .yl id ver,cs=>∃l,cs=[.func (.yield l) #[] #[]]/\E.Ij id ver/\(E.cur id ver->∃pl,E.β id=av pl/\l=pl.b)
 | .sS ..,_=>False
 | .cI id ver,cs=>∃b,cs=[.map (av b)]/\E.Ij id ver/\(E.cur id ver->∃pl,E.β id=av pl/\b=pl.b)
 | .mp ..,_ | .uE ..,_=>False
def VC(E:Env):aC->List Value->Prop
 | .nil,vs=>vs=[]
 | .cons a b,vs=>∃v vs' cs,vs=v::vs'/\V E a cs/\gI a.agg cs v/\VC E b vs'
 |_,_=>False
end
structure db(E E':Env):Prop where
 mem:va E E'
 Ij:∀id ver,E.Ij id ver->E'.Ij id ver
 cur:∀id ver,E.Ij id ver->E'.cur id ver->E.cur id ver/\E'.β id=E.β id
theorem db.refl(E:Env):db E E:=⟨va.refl E,λ_ _ h=>h,λ_ _ _ h=>⟨h,rfl⟩⟩
theorem db.trans{E E' E'':Env}(h:db E E')(h':db E' E''):db E E'':=
 ⟨h.mem.trans h'.mem,λid v b=>h'.Ij id v (h.Ij id v b),λid v b c=>
  let⟨c1,e1⟩:=h'.cur id v (h.Ij id v b) c
  let⟨c2,e2⟩:=h.cur id v b c1
  ⟨c2,e1.trans e2⟩⟩
mutual
theorem V.mono{E E':Env}(h:db E E'):∀ {a:aC} {cs:List Value},V E a cs->V E' a cs
 | .undef,_,hv=>by simp only[V]at hv
 | .gone,_,hv=>by simpa only[V]using hv
 | .dy,_,hv=>by simpa only[V]using hv
 | .sq,_,hv=>by simpa only[V]using hv
 | .yP,_,hv=>by simpa only[V]using hv
 | .sS ..,_,hv=>by simp only[V]at hv
 | .EB,_,hv=>by simpa only[V]using hv
 | .sb l,_,hv=>by simp only[V]at hv ⊢;obtain⟨b,cap,arr,e,h1,h2,h3,h4,h5⟩:=hv;obtain⟨h6,h7⟩:=h.mem.fz b _ h3 h4;exact⟨b,cap,arr,e,h1,h2,h6,h7,h5⟩
 | .d t x,_,hv=>by simp only[V]at hv ⊢;exact hv.mono h.mem
 | .pr a b,_,hv=>by simp only[V]at hv ⊢;obtain⟨ca,cb,e,ha,hb⟩:=hv;exact⟨ca,cb,e,V.mono h ha,V.mono h hb⟩
 | .ptr id ver p n,_,hv=>by simp only[V]at hv ⊢;obtain⟨a,e,hb,hc⟩:=hv;refine⟨a,e,h.Ij _ _ hb,λc=> ?_⟩;obtain⟨c1,e1⟩:=h.cur _ _ hb c;rw[e1];exact hc c1
 | .dV t x,_,hv=>by simp only[V]at hv ⊢;obtain⟨b,off,vs,e,hr,hx⟩:=hv;exact⟨b,off,vs,e,hr.mono h.mem,hx.mono h.mem⟩
 | .bE id ver p c i len,_,hv=>by simp only[V]at hv ⊢;obtain⟨a,cap,e,hl,hs,hb,hc⟩:=hv;refine⟨a,cap,e,hl,hs,h.Ij _ _ hb,λc=> ?_⟩;obtain⟨c1,e1⟩:=h.cur _ _ hb c;rw[e1];exact hc c1
 | .fn f c,_,hv=>by simp only[V]at hv ⊢;obtain⟨vs,e,hc⟩:=hv;exact⟨vs,e,VC.mono h hc⟩
 | .cons _ _,_,hv=>by simp only[V]at hv
 | .nil,_,hv=>by simp only[V]at hv
 | .vec ..,_,hv=>by simp only[V]at hv
 | .bx ..,_,hv=>by simp only[V]at hv
 | .yl id ver,_,hv=>by simp only[V]at hv ⊢;obtain⟨b,e,hb,hc⟩:=hv;refine⟨b,e,h.Ij _ _ hb,λc=> ?_⟩;obtain⟨c1,e1⟩:=h.cur _ _ hb c;rw[e1];exact hc c1
 | .cI id ver,_,hv=>by simp only[V]at hv ⊢;obtain⟨b,e,hb,hc⟩:=hv;refine⟨b,e,h.Ij _ _ hb,λc=> ?_⟩;obtain⟨c1,e1⟩:=h.cur _ _ hb c;rw[e1];exact hc c1
 | .mp ..,_,hv | .uE ..,_,hv=>by simp only[V]at hv
theorem VC.mono{E E':Env}(h:db E E'):∀ {a:aC} {vs:List Value},VC E a vs->VC E' a vs
 | .nil,_,hv=>by simpa only[VC]using hv
 | .cons a b,_,hv=>by simp only[VC]at hv ⊢;obtain⟨v,vs',cs,e,ha,ho,hb⟩:=hv;exact⟨v,vs',cs,e,V.mono h ha,ho,VC.mono h hb⟩
 | .undef,_,hv=>by simp only[VC]at hv
 | .gone,_,hv=>by simp only[VC]at hv
 | .dy,_,hv=>by simp only[VC]at hv
 | .sq,_,hv=>by simp only[VC]at hv
 | .yP,_,hv=>by simp only[VC]at hv
 | .yl ..,_,hv | .sS ..,_,hv=>by simp only[VC]at hv
 | .EB,_,hv=>by simp only[VC]at hv
 | .sb _,_,hv=>by simp only[VC]at hv
 | .d t x,_,hv=>by simp only[VC]at hv
 | .pr a b,_,hv=>by simp only[VC]at hv
 | .ptr ..,_,hv=>by simp only[VC]at hv
 | .dV ..,_,hv=>by simp only[VC]at hv
 | .bE ..,_,hv=>by simp only[VC]at hv
 | .fn ..,_,hv=>by simp only[VC]at hv
 | .vec ..,_,hv=>by simp only[VC]at hv
 | .bx ..,_,hv=>by simp only[VC]at hv
 | .cI ..,_,hv=>by simp only[VC]at hv
 | .mp ..,_,hv | .uE ..,_,hv=>by simp only[VC]at hv
end
theorem V.size{E:Env}:∀ {a:aC} {cs:List Value},V E a cs->cs.length=a.size
 | .undef,_,hv=>by simp only[V]at hv
 | .gone,_,hv=>by simp only[V]at hv;obtain⟨v,rfl,_⟩:=hv;rfl
 | .dy,_,hv=>by simp only[V]at hv;rw[hv];rfl
 | .sq,_,hv=>by simp only[V]at hv;rw[hv];rfl
 | .yP,_,hv=>by simp only[V]at hv;rw[hv];rfl
 | .yl ..,_,hv=>by simp only[V]at hv;obtain⟨_,rfl,_⟩:=hv;rfl
 | .sS ..,_,hv=>by simp only[V]at hv
 | .EB,_,hv=>by simp only[V]at hv;rw[hv];rfl
 | .sb _,_,hv=>by simp only[V]at hv;obtain⟨_,_,_,_,rfl,_⟩:=hv;rfl
 | .d t x,_,hv=>by simp only[V]at hv;exact hv.size
 | .pr a b,_,hv=>by simp only[V]at hv;obtain⟨ca,cb,rfl,ha,hb⟩:=hv;simp[aC.size,V.size ha,V.size hb]
 | .ptr ..,_,hv=>by simp only[V]at hv;obtain⟨a,rfl,_⟩:=hv;rfl
 | .dV ..,_,hv=>by simp only[V]at hv;obtain⟨_,_,_,rfl,_⟩:=hv;rfl
 | .bE ..,_,hv=>by simp only[V]at hv;obtain⟨_,_,rfl,_⟩:=hv;rfl
 | .fn ..,_,hv=>by simp only[V]at hv;obtain⟨_,rfl,_⟩:=hv;rfl
 | .cons _ _,_,hv=>by simp only[V]at hv
 | .nil,_,hv=>by simp only[V]at hv
 | .vec ..,_,hv=>by simp only[V]at hv
 | .bx ..,_,hv=>by simp only[V]at hv
 | .cI ..,_,hv=>by simp only[V]at hv;obtain⟨_,rfl,_⟩:=hv;rfl
 | .mp ..,_,hv | .uE ..,_,hv=>by simp only[V]at hv
theorem V.one{E:Env}:∀ {a:aC} {cs:List Value},V E a cs->∀c∈cs,c.oneCell'=aZ
 | .undef,_,hv=>by simp only[V]at hv
 | .gone,_,hv=>by simp only[V]at hv;obtain⟨v,rfl,h⟩:=hv;simp[h]
 | .dy,_,hv=>by simp only[V]at hv;rw[hv];simp[dT]
 | .sq,_,hv=>by simp only[V]at hv;rw[hv];simp[dT]
 | .yP,_,hv=>by simp only[V]at hv;rw[hv];simp[dT]
 | .yl ..,_,hv=>by simp only[V]at hv;obtain⟨_,rfl,_⟩:=hv;simp[dT]
 | .sS ..,_,hv=>by simp only[V]at hv
 | .EB,_,hv=>by simp only[V]at hv;rw[hv];simp[dT]
 | .sb _,_,hv=>by simp only[V]at hv;obtain⟨_,_,_,_,rfl,_⟩:=hv;simp[dT]
 | .d t x,_,hv=>by simp only[V]at hv;exact hv.one
 | .pr a b,_,hv=>by
  simp only[V]at hv;obtain⟨ca,cb,rfl,ha,hb⟩:=hv;intro c hc;rcases bD.1 hc with hc | hc
  ·exact V.one ha c hc
  ·exact V.one hb c hc
 | .ptr ..,_,hv=>by simp only[V]at hv;obtain⟨a,rfl,_⟩:=hv;simp[dT]
 | .dV ..,_,hv=>by simp only[V]at hv;obtain⟨_,_,_,rfl,_⟩:=hv;simp[dT]
 | .bE ..,_,hv=>by simp only[V]at hv;obtain⟨_,_,rfl,_⟩:=hv;simp[dT]
 | .fn ..,_,hv=>by simp only[V]at hv;obtain⟨_,rfl,_⟩:=hv;simp[dT]
 | .cons _ _,_,hv=>by simp only[V]at hv
 | .nil,_,hv=>by simp only[V]at hv
 | .vec ..,_,hv=>by simp only[V]at hv
 | .bx ..,_,hv=>by simp only[V]at hv
 | .cI ..,_,hv=>by simp only[V]at hv;obtain⟨_,rfl,_⟩:=hv;simp[dT]
 | .mp ..,_,hv | .uE ..,_,hv=>by simp only[V]at hv
theorem aC.aru:∀ {v:aC},v.agg=aQ->v.size=1
 | .d (.int _) _,_ | .d .bool _,_ | .d .str _,_ | .d (.slice _) _,_ | .d (.iT _) _,_ | .d (.vC _) _,_=>rfl
 | .d .unit _,h | .d (.pair _ _) _,h | .d (.arr _ _) _,h=>by simp[aC.agg,Ty.agg]at h
 | .pr _ _,h=>by simp[aC.agg]at h
 | .undef,_ | .gone,_ | .dy,_ | .sq,_ | .yP,_ | .EB,_ | .ptr ..,_ | .dV ..,_ | .bE ..,_ | .fn ..,_ | .cons ..,_ | .nil,_ | .vec ..,_ | .sb _,_ | .bx ..,_ | .cI ..,_ | .mp ..,_ | .uE ..,_ | .yl ..,_ | .sS ..,_=>rfl
def VS(E:Env):aC->Value->Prop
 | .undef,_=>True
 | .cons a b,v=>∃vs,v= .tuple vs.toArray/\VC E (.cons a b) vs
 | .nil,v=>v= .tuple #[]
 |a,v=>∃cs,V E a cs/\gI a.agg cs v
theorem VS.mono{E E':Env}(h:db E E'):∀ {a:aC} {v:Value},VS E a v->VS E' a v:=by
 intro a v hv
 cases a <;> first
  |trivial
  |exact hv
  | (obtain⟨cs,h1,h2⟩:=hv;exact⟨cs,V.mono h h1,h2⟩)
  | (obtain⟨vs,e,hc⟩:=hv;exact⟨vs,e,VC.mono h hc⟩)
theorem VS.undef{E:Env}{v:Value}:VS E .undef v:=trivial
theorem VS.of{E:Env}{a:aC}{cs:List Value}{v:Value}(h:V E a cs)(ho:gI a.agg cs v):VS E a v:=by
 cases a <;> first
  | (simp only[V]at h;done)
  |exact⟨cs,h,ho⟩
theorem VS.fA{E:Env}{a:aC}{v:Value}(h:VS E a v)(hc:a.fA=aZ):∃cs,V E a cs/\gI a.agg cs v:=by
 cases a <;> first
  | (simp[aC.fA]at hc;done)
  |exact h
theorem VS.single{E:Env}{a:aC}{v:Value}(h:VS E a v)(hc:a.fA=aZ)(ha:a.agg=aQ):V E a [v]:=by obtain⟨cs,hv,ho⟩:=h.fA hc;rw[ha]at ho;have:cs=[v]:=ho;rw[<-this];exact hv
theorem gI.cells{agg:Bool}{cs:List Value}{v:Value}(h:gI agg cs v)(h1:∀c∈cs,c.oneCell'=aZ):v.cells=cs.toArray:=by
 cases agg with
 |true=>have:v= .agg cs.toArray:=h;rw[this];rfl
 |false=>
  have e:cs=[v]:=h;have:=h1 v (by simp[e]);rw[e];cases v <;> first | rfl | (simp[dT]at this;done)
end Go.Ab
namespace Go.Ab
section
variable {α β:Type}
theorem az{a b:α}:(Out.ok a).eval=av b↔a=b:=by simp[Out.eval]
theorem aw{b:α}:(Out.fail:Out α).eval=av b↔False:=by simp[Out.eval]
theorem b8{c:Bool}{r:Out α}{b:α}:(Out.wI c r).eval=av b↔c=aZ/\r.eval=av b:=by cases c <;> simp[Out.eval]
theorem aH{c:Bool}{r:Out α}{b:α}:(Out.guard c r).eval=av b↔c=aZ/\r.eval=av b:=by cases c <;> simp[Out.guard,Out.eval]
theorem yJ{x:Option β}{f:β->Out α}{b:α}:(Out.get x f).eval=av b↔∃y,x=av y/\(f y).eval=av b:=by cases x <;> simp[Out.eval]
theorem lf{x:Option α}{b:α}:(Out.opt x).eval=av b↔x=av b:=by cases x <;> simp[Out.opt,Out.eval]
theorem akx(o:Out α)(f:α->Out β):(o.bind f).eval=o.eval.bind λa=>(f a).eval:=by
 induction o with
 |ok a=>rfl
 |fail=>rfl
 |wI c r ih=>cases c <;> simp[Out.bind,Out.eval,ih]
 |get x g ih=>cases x <;> simp[Out.bind,Out.eval,ih]
 |br c x y ih1 ih2=>cases c <;> simp[Out.bind,Out.eval,ih1,ih2]
theorem ax{o:Out α}{f:α->Out β}{b:β}:(o.bind f).eval=av b↔∃a,o.eval=av a/\(f a).eval=av b:=by rw[akx];simp[Option.bind_eq_some_iff]
theorem run_eq{R:Type}(o:Out α)(k:α->Option R):o.run k=o.eval.bind k:=by
 induction o with
 |ok a=>rfl
 |fail=>rfl
 |wI c r ih=>cases c <;> simp[Out.run,Out.eval,aL,ih]
 |get x g ih=>cases x <;> simp[Out.run,Out.eval,al,ih]
 |br c x y ih1 ih2=>cases c <;> simp[Out.run,Out.eval,aL,ih1,ih2]
theorem jd{R:Type}{o:Out α}{k:α->Option R}{r:R}:o.run k=av r↔∃a,o.eval=av a/\k a=av r:=by rw[run_eq];simp[Option.bind_eq_some_iff]
end
theorem km{t t':Ty}{x:t.den}{y:t'.den}(h:wZ t t' x=av y):∃e:t=t',e▸x=y:=by
 unfold wZ at h;split at h
 ·rename_i e;exact⟨e,by simpa using h⟩
 ·cases h
theorem bI.map{α β:Type}{R:List Value->α->Prop}{R':List Value->β->Prop}{f:α->β}(h:∀c x,R c x->R' c (f x)):∀ {cs:List Value} {l:List α},bI R cs l->bI R' cs (l.map f)
 |_,[],hc=>hc
 |_,x::xs,⟨c,cs',e,hx,hr⟩=>⟨c,cs',e,h c x hx,bI.map h hr⟩
theorem dA.aSF{E:Env}:∀(a b:Ty) (f:a.den->b.den),afR a b=av f->∀(cs:List Value) (x:a.den),dA E a cs x->dA E b cs (f x):=by
 intro a b
 induction a,b using afR.induct with
 |case1 t=>
  intro f hf cs x hx;unfold afR at hf;rw[Ao rfl]at hf;obtain rfl:=bn hf;simp only[dA]at hx;obtain⟨h1,h2⟩:=hx;show dA E (.slice t) cs ((x:Option (List t.den)).getD []);simp only[dA];cases hx:(x:Option (List t.den)) with
  |none=>exact⟨aD,0,[],h1 hx,ay _,λh=>absurd h (iV 0),λi v hh=>by simp at hh,rfl⟩
  |some l=>exact h2 l hx
 |case2 t t' il=>
  intro f hf;unfold afR at hf;rw[Dp il]at hf;cases hf
 |case3 t=>
  intro f hf cs x hx;unfold afR at hf;rw[Ao rfl]at hf;obtain rfl:=bn hf;simp only[dA]at hx ⊢;refine⟨λh=>(by cases h),λl hl=> ?_⟩;obtain rfl:x=l:=bn hl;exact hx
 |case4 t t' il=>
  intro f hf;unfold afR at hf;rw[Dp il]at hf;cases hf
 |case5 a b c d f g h1 h2 ih1 ih2=>
  intro k hk cs x hx;unfold afR at hk;rw[h2,h1]at hk;obtain rfl:=bn hk;simp only[dA]at hx ⊢;obtain⟨ca,cb,e,ha,hb⟩:=hx;exact⟨ca,cb,e,ih1 f h2 ca x.1 ha,ih2 g h1 cb x.2 hb⟩
 |case6 a b c d hn ih1 ih2=>
  intro p hp;unfold afR at hp;split at hp
  ·rename_i f k h1 h2;exact(hn _ _ h1 h2).elim
  ·cases hp
 |case7 a b f h1 ih=>
  intro k hk cs x hx;unfold afR at hk;rw[h1]at hk;obtain rfl:=bn hk;simp only[dA]at hx ⊢;obtain⟨ad,cap,vs,e,hl,hs,hr,hc⟩:=hx;rw[cm];exact⟨ad,cap,vs,e,hl,hs,hr,hc.map λc x hx=>ih f h1 c x hx⟩
 |case8 a b h1 ih=>
  intro p hp;unfold afR at hp;rw[h1]at hp;cases hp
 |case9 a h1 h2 h3 h4=>
  intro f hf cs x hx;rw[afR.eq_5 _ _ h1 h2 h3 h4,Ao rfl]at hf;obtain rfl:=bn hf;exact hx
 |case10 a b h1 h2 h3 h4 il=>
  intro f hf;rw[afR.eq_5 _ _ h1 h2 h3 h4,Dp il]at hf;cases hf
theorem aMO{t t':Ty}{f:t.den->t'.den}(hp:afR t t'=av f):t.agg=t'.agg:=by
 unfold afR at hp;split at hp
 ·rfl
 ·rfl
 ·rfl
 ·rfl
 ·split at hp
  ·rename_i e;rw[e]
  ·cases hp
theorem ahD{t t':Ty}{x:t.den}{y:t'.den}(h:JB t t' x=av y):t.agg=t'.agg:=by
 unfold JB at h;split at h
 ·rename_i z hz;obtain⟨e,_⟩:=km hz;rw[e]
 ·split at h
  ·rename_i f hf;exact aMO hf
  ·cases h
theorem GD{E:Env}{t t':Ty}{x:t.den}{y:t'.den}(h:JB t t' x=av y){cs:List Value}(hx:dA E t cs x):dA E t' cs y:=by
 unfold JB at h;split at h
 ·rename_i z hz;obtain⟨e,hz⟩:=km hz;subst e;obtain rfl:=bn h;simp only at hz;rw[<-hz];exact hx
 ·split at h
  ·rename_i f hf;obtain rfl:=bn h;exact dA.aSF _ _ f hf cs x hx
  ·cases h
theorem azX{E:Env}{t t':Ty}{x:List t.den}{y:List t'.den}(h:JB (.slice t) (.slice t') x=av y):y.length=x.length/\∀vs,bI (dA E t) vs x->bI (dA E t') vs y:=by
 unfold JB at h;split at h
 ·rename_i z hz;obtain⟨e,hz⟩:=km hz;have e':t=t':=by simpa using e
  subst e';obtain rfl:=bn h;simp only at hz;subst hz;exact⟨rfl,λ_ h=>h⟩
 ·split at h
  ·rename_i p hp;obtain rfl:=bn h;unfold afR at hp;cases hd:afR t t' with
   |none=>rw[hd]at hp;cases hp
   |some q=>
    rw[hd]at hp;obtain rfl:=bn hp;exact⟨cm _,λvs hc=>hc.map λc x hx=>dA.aSF _ _ q hd c x hx⟩
  ·cases h
def VO(E:Env):aC->List Value->Prop
 | .vec _ t l,cs=>bI (dA E t) cs l
 |a,cs=>V E a cs
theorem VO.of{E:Env}{a:aC}{cs:List Value}(h:V E a cs):VO E a cs:=by cases a <;> first | exact h | (simp only[V]at h)
def aC.jy:aC->Bool | .vec .. =>aZ | .mp .. =>aZ | .uE .. =>aZ | .sS .. =>aZ | _=>aQ
theorem VO.to{E:Env}{a:aC}{cs:List Value}(h:VO E a cs)(hn:a.jy=aQ):V E a cs:=by cases a <;> first | exact h | (simp[aC.jy]at hn)
theorem VO.mono{E E':Env}(h:db E E'){a:aC}{cs:List Value}(hv:VO E a cs):VO E' a cs:=by cases a <;> first | exact V.mono h hv | exact bI.mono (λ_ _ hx=>hx.mono h.mem) hv
theorem ac1{t:Ty}{l:List t.den}{i:Nat}(h:i < l.length):nth t l i=l[i]:=by unfold nth;simp[h]
theorem adh{α:Type}(cs:List α)(n m k j:Nat)(h:k+j<=m):(((cs.drop n).take m).drop k).take j=(cs.drop (n+k)).take j:=by rw[u9,fp,gJ];congr 1;omega
theorem To{E:Env}{t:Ty}{cs:List Value}{l:List t.den}(h:bI (dA E t) cs l){i:Nat}(hi:i < l.length):
  dA E t ((cs.drop (i*t.size)).take t.size) l[i]/\i*t.size+t.size<=cs.length:=by
 have hz:∀c x,dA E t c x->c.length=t.size:=λc x hx=>hx.size
 refine⟨h.get hz i hi,?_⟩;rw[h.length hz,<-Nat.succ_mul];exact di _ hi
theorem uH{E:Env}:∀(p:List MK) (c:aC) (cs:List Value) (n:Nat) (v:aC),VO E c cs->(loc c p).eval=av (n,v)->
  (n=0/\v=c)\/(V E v ((cs.drop n).take v.size)/\n+v.size<=cs.length)
 |[],c,cs,n,v,hc,h=>by left;simp only[loc,az,cT]at h;exact⟨h.1.symm,h.2.symm⟩
 |st::p,c,cs,n,v,hc,h=>by
  by_cases nA:st= .arr
  ·subst nA;have h':(loc c p).eval=av (n,v):=by cases c <;> simpa only[loc]using h
   exact uH p c cs n v hc h'
  right;have whole:∀(c':aC) (cs':List Value) (n':Nat) (v':aC),V E c' cs'->(loc c' p).eval=av (n',v')->V E v' ((cs'.drop n').take v'.size)/\n'+v'.size<=cs'.length:=by
   intro c' cs' n' v' hc' hl;rcases uH p c' cs' n' v' (VO.of hc') hl with⟨rfl,rfl⟩ | hh
   ·have:=hc'.size;rw[aG,bk ak];exact⟨hc',ak⟩
   ·exact hh
  have second:∀(a b:aC) (ca cb:List Value),cs=ca++cb->ca.length=a.size->V E b cb->((loc b p).bind λ(n,v)=>Out.ok (a.size+n,v)).eval=av (n,v)->
    V E v ((cs.drop n).take v.size)/\n+v.size<=cs.length:=by
   intro a b ca cb e hl hb hh;obtain⟨⟨n',v'⟩,h1,h2⟩:=ax.1 hh;simp only[az,cT]at h2;obtain⟨rfl,rfl⟩:=h2;obtain⟨h3,h4⟩:=whole b cb n' v' hb h1;subst e;rw[<-hl,kK,dS ak,aY,Nat.add_sub_cancel_left];exact⟨h3,by simp only[ai];omega⟩
  have elem:∀(t:Ty) (l:List t.den) (i:Nat),bI (dA E t) cs l->(Out.wI (decide (i < l.length)) ((loc (.d t (nth t l i)) p).bind λ(n,v)=>Out.ok (i*t.size+n,v))).eval=av (n,v)->
    V E v ((cs.drop n).take v.size)/\n+v.size<=cs.length:=by
   intro t l i xL hh;obtain⟨hi,hh⟩:=b8.1 hh;have hi:i < l.length:=by simpa using hi
   obtain⟨⟨n',v'⟩,h1,h2⟩:=ax.1 hh;simp only[az,cT]at h2;obtain⟨rfl,rfl⟩:=h2;obtain⟨hp,hle⟩:=To xL hi;rw[ac1 hi]at h1;have hv:V E (.d t l[i]) ((cs.drop (i*t.size)).take t.size):=by simpa only[V]using hp
   obtain⟨h3,h4⟩:=whole _ _ n' v' hv h1;have hlen:((cs.drop (i*t.size)).take t.size).length=t.size:=hp.size;rw[adh _ _ _ _ _ ak]at h3;exact⟨h3,ak⟩
  cases c with
  |pr a b=>
   simp only[VO,V]at hc;obtain⟨ca,cb,e,ha,hb⟩:=hc;cases st with
   |arr=>exact absurd rfl nA
   |fst=>
    simp only[loc]at h;obtain⟨h3,h4⟩:=whole a ca n v ha h;subst e;refine⟨?_,by simp only[ai];omega⟩;rw[kK,ra,dG,lE (by omega:v.size<=ca.length - n),dZ,bm];exact h3
   |snd=>simp only[loc]at h;exact second a b ca cb e ha.size hb h
   |idx i=>simp only[loc,aw]at h
  |d t x=>
   simp only[VO,V]at hc;cases t with
   |pair ta tb=>
    simp only[dA]at hc;obtain⟨ca,cb,e,ha,hb⟩:=hc;cases st with
    |arr=>exact absurd rfl nA
    |fst=>
     simp only[loc]at h;obtain⟨h3,h4⟩:=whole (.d ta x.1) ca n v (by simpa only[V]using ha) h;subst e;refine⟨?_,by simp only[ai];omega⟩;rw[kK,ra,dG,lE (by omega:v.size<=ca.length - n),dZ,bm];exact h3
    |snd=>simp only[loc]at h;exact second (.d ta x.1) (.d tb x.2) ca cb e ha.size (by simpa only[V]using hb) h
    |idx i=>simp only[loc,aw]at h
   |arr m t=>
    simp only[dA]at hc;cases st with
    |arr=>exact absurd rfl nA
    |idx i=>simp only[loc]at h;exact elem t x i hc.2 h
    |fst=>simp only[loc,aw]at h
    |snd=>simp only[loc,aw]at h
   |_=>cases st <;> first | exact absurd rfl nA | (simp only[loc,aw]at h)
  |vec e t l=>
   simp only[VO]at hc;cases st with
   |arr=>exact absurd rfl nA
   |idx i=>simp only[loc]at h;exact elem t l i hc h
   |fst=>simp only[loc,aw]at h
   |snd=>simp only[loc,aw]at h
  |_=>cases st <;> first | exact absurd rfl nA | (simp only[loc,aw]at h)
theorem asw{E:Env}{a b:aC}{ca cb:List Value}(ha:V E a ca)(hb:V E b cb):V E (SH a b) (ca++cb):=by
 have gen:V E (.pr a b) (ca++cb):=by simp only[V];exact⟨ca,cb,rfl,ha,hb⟩
 unfold SH;split
 ·simp only[V]at ha hb ⊢;simp only[dA];exact⟨ca,cb,rfl,ha,hb⟩
 ·exact gen
theorem XR(a b:aC):(SH a b).jy=aQ:=by unfold SH;split <;> rfl
def dO(cs:List Value)(n:Nat)(vs:List Value):List Value:=cs.take n++vs++cs.drop (n+vs.length)
theorem av8{cs vs:List Value}(h:cs.length=vs.length):dO cs 0 vs=vs:=by simp[dO,dS (by omega:cs.length<=vs.length)]
theorem D9{ca cb vs:List Value}{n:Nat}(h:n+vs.length<=ca.length):dO (ca++cb) n vs=dO ca n vs++cb:=by unfold dO;rw[ra,kK,lE (by omega:n<=ca.length),dZ,bm,lE h,aG];simp only[aI]
theorem TM{ca cb vs:List Value}{n:Nat}:dO (ca++cb) (ca.length+n) vs=ca++dO cb n vs:=by unfold dO;rw[ra,bk ak,Nat.add_sub_cancel_left,kK,dS ak,aY];simp only[aI];congr 4;omega
theorem av9{cs vs:List Value}{i z n:Nat}(hz:i+z<=cs.length)(h:n+vs.length<=z):
  dO cs (i+n) vs=cs.take i++dO ((cs.drop i).take z) n vs++cs.drop (i+z):=by
 have e:cs=cs.take i++((cs.drop i).take z++cs.drop (i+z)):=by rw[<-gJ,dH,dH]
 have hl:(cs.take i).length=i:=by simp;omega
 have hm:((cs.drop i).take z).length=z:=by simp;omega
 conv=>lhs;rw[e,show i+n=(cs.take i).length+n by rw[hl]]
 rw[TM,D9 ak];simp only[aI]
theorem kG{cs vs:List Value}{n:Nat}(h:n+vs.length<=cs.length):(dO cs n vs).length=cs.length:=by simp[dO];omega
def nr:aC->aC->Prop
 | .vec e t l,.vec e' t' l'=>e'=e/\t'=t/\l'.length=l.length
 | .vec ..,_=>False
 |_,.vec .. =>False
 | .mp ..,_ | .uE ..,_ | .sS ..,_=>False
 |_,.mp .. | _,.uE .. | _,.sS .. =>False
 |_,_=>True
theorem nr.vQ{a b:aC}(h:nr a b)(ha:a.jy=aQ):b.jy=aQ:=by
 cases b <;> first
  |rfl
  | (cases a <;> first | (simp[aC.jy]at ha;done) | exact h.elim)
theorem nr.of{a b:aC}(ha:a.jy=aQ)(hb:b.jy=aQ):nr a b:=by
 cases a <;> first
  | (simp[aC.jy]at ha;done)
  | (cases b <;> first | trivial | (simp[aC.jy]at hb;done))
theorem V.vQ{E:Env}{a:aC}{cs:List Value}(h:V E a cs):a.jy=aQ:=by cases a <;> first | rfl | (simp only[V]at h)
theorem r9{E:Env}:∀(p:List MK) (c:aC) (cs:List Value) (n:Nat) (o v c':aC) (vs:List Value),VO E c cs->(loc c p).eval=av (n,o)->V E v vs->
  (zH c p v).eval=av c'->n+vs.length<=cs.length/\VO E c' (dO cs n vs)/\
   nr c c'
 |[],c,cs,n,o,v,c',vs,hc,hl,hv,h=>by
  simp only[loc,az,cT]at hl;obtain⟨rfl,rfl⟩:=hl
  have main:∀(aT1:c.jy=aQ),(Out.guard (v.fA && (c.size==v.size)) (.ok v)).eval=av c'->0+vs.length<=cs.length/\VO E c' (dO cs 0 vs)/\
   nr c c':=by
   intro aT1 hg;obtain⟨h1,h2⟩:=aH.1 hg;obtain rfl:=az.1 h2;simp only[au,dK]at h1;have e1:=(hc.to aT1).size;have e2:=hv.size;refine⟨ak,?_,?_⟩
   ·rw[av8 ak];exact VO.of hv
   ·exact nr.of aT1 hv.vQ
  cases c with
  |vec e t l=>simp only[zH,aw]at h
  |mp k v l=>simp only[zH,aw]at h
  |uE q ver k v rest cur=>simp only[zH,aw]at h
  |sS k f p=>simp only[zH,aw]at h
  |_=>exact main rfl (by simpa only[zH]using h)
 |st::p,c,cs,n,o,v,c',vs,hc,hl,hv,h=>by
  by_cases nA:st= .arr
  ·subst nA;have hl':(loc c p).eval=av (n,o):=by cases c <;> simpa only[loc]using hl
   have h':(zH c p v).eval=av c':=by cases c <;> simpa only[zH]using h
   exact r9 p c cs n o v c' vs hc hl' hv h'
  have left:∀(a b:aC) (ca cb:List Value),cs=ca++cb->V E a ca->V E b cb->(loc a p).eval=av (n,o)->((zH a p v).bind λa'=>Out.ok (SH a' b)).eval=av c'->
    n+vs.length<=cs.length/\VO E c' (dO cs n vs)/\c'.jy=aQ:=by
   intro a b ca cb e ha hb hl hh;obtain⟨a',h1,h2⟩:=ax.1 hh;obtain rfl:=az.1 h2;obtain⟨h3,h4,h5⟩:=r9 p a ca n o v a' vs (VO.of ha) hl hv h1;subst e;refine⟨by simp only[ai];omega,?_,XR _ _⟩;rw[D9 h3];have aVN:a'.jy=aQ:=h5.vQ ha.vQ;exact VO.of (asw (h4.to aVN) hb)
  have right:∀(a b:aC) (ca cb:List Value),cs=ca++cb->ca.length=a.size->V E a ca->V E b cb->((loc b p).bind λ(n,v)=>Out.ok (a.size+n,v)).eval=av (n,o)->
    ((zH b p v).bind λb'=>Out.ok (SH a b')).eval=av c'->n+vs.length<=cs.length/\VO E c' (dO cs n vs)/\c'.jy=aQ:=by
   intro a b ca cb e aG5 ha hb hl hh;obtain⟨⟨n',v'⟩,h1,h2⟩:=ax.1 hl;simp only[az,cT]at h2;obtain⟨rfl,rfl⟩:=h2;obtain⟨b',h3,h4⟩:=ax.1 hh;obtain rfl:=az.1 h4;obtain⟨h5,h6,h7⟩:=r9 p b cb n' v' v b' vs (VO.of hb) h1 hv h3;subst e;refine⟨by simp only[ai];omega,?_,XR _ _⟩;rw[<-aG5,TM];have aVN:b'.jy=aQ:=h7.vQ hb.vQ;exact VO.of (asw ha (h6.to aVN))
  have elem:∀(t:Ty) (l:List t.den) (i:Nat) (mk:List t.den->aC),bI (dA E t) cs l->(Out.wI (decide (i < l.length)) ((loc (.d t (nth t l i)) p).bind λ(n,v)=>Out.ok (i*t.size+n,v))).eval=av (n,o)->
    (Out.wI (decide (i < l.length)) ((zH (.d t (nth t l i)) p v).bind fun
     | .d t' y=>(Out.opt (wZ t' t y)).bind λy=> .ok (mk (l.set i y))
     |_=> .fail)).eval=av c'->
    n+vs.length<=cs.length/\∃l',c'=mk l'/\l'.length=l.length/\bI (dA E t) (dO cs n vs) l':=by
   intro t l i mk xL hl hh;obtain⟨hi,hl⟩:=b8.1 hl;have hi:i < l.length:=by simpa using hi
   obtain⟨⟨n',v'⟩,h1,h2⟩:=ax.1 hl;simp only[az,cT]at h2;obtain⟨rfl,rfl⟩:=h2;obtain⟨_,hh⟩:=b8.1 hh;obtain⟨w,h3,h4⟩:=ax.1 hh;obtain⟨hp,hle⟩:=To xL hi;rw[ac1 hi]at h1 h3;have aRp:V E (.d t l[i]) ((cs.drop (i*t.size)).take t.size):=by simpa only[V]using hp
   have hlen:((cs.drop (i*t.size)).take t.size).length=t.size:=hp.size;obtain⟨h5,h6,h7⟩:=r9 p _ _ n' v' v w vs (VO.of aRp) h1 hv h3;cases w with
   |d t' y=>
    simp only at h4;obtain⟨y',h8,h9⟩:=ax.1 h4;obtain⟨rfl,h8⟩:=km (lf.1 h8);simp only at h8;subst h8;obtain rfl:=az.1 h9;refine⟨ak,_,rfl,by simp,?_⟩;have hy:dA E t' (dO ((cs.drop (i*t'.size)).take t'.size) n' vs) y:=by simpa only[VO,V]using h6
    have:=bI.set (λc x hx=>dA.size hx) xL i hi hy;rw[av9 (by omega:i*t'.size+t'.size<=cs.length) ak];rwa[hy.size]at this
   |_=>simp only[aw]at h4
  cases c with
  |pr a b=>
   simp only[VO,V]at hc;obtain⟨ca,cb,e,ha,hb⟩:=hc;cases st with
   |arr=>exact absurd rfl nA
   |fst=>
    simp only[loc]at hl;simp only[zH]at h;obtain⟨r1,r2,r3⟩:=left a b ca cb e ha hb hl h;exact⟨r1,r2,nr.of rfl r3⟩
   |snd=>
    simp only[loc]at hl;simp only[zH]at h;obtain⟨r1,r2,r3⟩:=right a b ca cb e ha.size ha hb hl h;exact⟨r1,r2,nr.of rfl r3⟩
   |idx i=>simp only[loc,aw]at hl
  |d t x=>
   simp only[VO,V]at hc;cases t with
   |pair ta tb=>
    simp only[dA]at hc;obtain⟨ca,cb,e,ha,hb⟩:=hc;have ha':V E (.d ta x.1) ca:=by simpa only[V]using ha
    have hb':V E (.d tb x.2) cb:=by simpa only[V]using hb
    cases st with
    |arr=>exact absurd rfl nA
    |fst=>
     simp only[loc]at hl;simp only[zH]at h;obtain⟨r1,r2,r3⟩:=left _ _ ca cb e ha' hb' hl h;exact⟨r1,r2,nr.of rfl r3⟩
    |snd=>
     simp only[loc]at hl;simp only[zH]at h;obtain⟨r1,r2,r3⟩:=right (.d ta x.1) (.d tb x.2) ca cb e ha.size ha' hb' hl h;exact⟨r1,r2,nr.of rfl r3⟩
    |idx i=>simp only[loc,aw]at hl
   |arr m t=>
    simp only[dA]at hc;cases st with
    |arr=>exact absurd rfl nA
    |idx i=>
     simp only[loc]at hl;simp only[zH]at h;obtain⟨r1,l',e,r2,r3⟩:=elem t x i (λl=> .d (.arr m t) l) hc.2 hl h;subst e;refine⟨r1,?_,trivial⟩;simp only[VO,V,dA];exact⟨by rw[r2];exact hc.1,r3⟩
    |fst=>simp only[loc,aw]at hl
    |snd=>simp only[loc,aw]at hl
   |_=>cases st <;> first | exact absurd rfl nA | (simp only[loc,aw]at hl)
  |vec e t l=>
   simp only[VO]at hc;cases st with
   |arr=>exact absurd rfl nA
   |idx i=>
    simp only[loc]at hl;simp only[zH]at h;obtain⟨r1,l',e',r2,r3⟩:=elem t l i (λl=> .vec e t l) hc hl h;subst e';exact⟨r1,by simpa only[VO]using r3,rfl,rfl,r2⟩
   |fst=>simp only[loc,aw]at hl
   |snd=>simp only[loc,aw]at hl
  |_=>cases st <;> first | exact absurd rfl nA | (simp only[loc,aw]at hl)
end Go.Ab
namespace Go.Ab
def aTc(E:Env)(id:Id)(fr:Bool)(e:TypeId)(t:Ty)(l:List t.den):Prop:=
 0 < t.size/\match E.β id with
  |none=>l=[]
  |some pl=>∃cur k,E.w.heap[pl.b]? =av (.cells cur e (0,0))/\cur.size=pl.cap*t.size/\l.length<=pl.cap/\pl.cap<=maxLen/\E.g pl.b= .own (.id id) k/\
    k<=l.length*t.size/\(fr=aQ->k=0)/\bI (dA E t) (cur.toList.take (l.length*t.size)) l
def aC.Ju:aC->Pl->Nat->TypeId->Prop
 | .bx e' 0 _,_,_,e=>e=e'
 | .bx e' (z+1) c,pl,n,e=>e=e'/\n=pl.cap*(z+1)/\pl.cap<=maxLen/\c.size<=n
 |_,_,_,_=>True
def aC.zd:aC->Nat->Nat
 | .bx _ (_+1) c,_=>c.size
 |_,n=>n
def aC.afV:aC->Bool | .bx .. =>aZ | _=>aQ
theorem V.Cj{E:Env}{a:aC}{cs:List Value}(h:V E a cs):a.afV=aQ:=by cases a <;> first | rfl | (simp only[V]at h)
theorem Wu{c:aC}(h:c.afV=aQ):c.strip=c:=by cases c <;> first | rfl | (simp[aC.afV]at h)
theorem UT{c:aC}(h:c.afV=aQ)(pl:Pl)(n:Nat)(e:TypeId):c.Ju pl n e:=by cases c <;> first | trivial | (simp[aC.afV]at h)
theorem aaI{c:aC}(h:c.afV=aQ)(n:Nat):c.zd n=n:=by cases c <;> first | rfl | (simp[aC.afV]at h)
theorem Qy(c:aC){c':aC}(h:c'.afV=aQ):(c.wrap c').strip=c':=by cases c <;> first | rfl | exact Wu h
theorem O4{c c':aC}{pl:Pl}{n:Nat}{e:TypeId}(hc:c.Ju pl n e)(h:c'.afV=aQ)(hs:c'.size=c.strip.size):(c.wrap c').Ju pl n e:=by
 cases c with
 |bx e' z c=>cases z with
  |zero=>exact hc
  |succ z=>exact⟨hc.1,hc.2.1,hc.2.2.1,by rw[hs];exact hc.2.2.2⟩
 |_=>exact UT h pl n e
theorem US{c c':aC}{n:Nat}(h:c'.afV=aQ)(hs:c'.size=c.strip.size):(c.wrap c').zd n=c.zd n:=by
 cases c with
 |bx e' z c=>cases z with
  |zero=>rfl
  |succ z=>exact hs
 |_=>exact aaI h n
theorem Zy{c:aC}{pl:Pl}{n:Nat}{e:TypeId}(h:c.Ju pl n e):c.zd n<=n:=by
 cases c with
 |bx e' z c=>cases z with
  |zero=>exact ay _
  |succ z=>exact h.2.2.2
 |_=>exact ay _
def as4(id:Id)(fr:Bool):np:=match fr with | true=> .free | false=> .own (.id id) 0
def UA(E:Env)(id:Id)(fr:Bool)(c:aC):Prop:=∃pl cur e,E.β id=av pl/\E.w.heap[pl.b]? =av (.cells cur e (0,0))/\E.g pl.b=as4 id fr/\c.Ju pl cur.size e/\V E c.strip (cur.toList.take (c.zd cur.size))
def Alike{α β:Type}(R:α->β->Prop):List α->List β->Prop
 |[],[]=>True
 |x::xs,y::ys=>R x y/\Alike R xs ys
 |_,_=>False
theorem Alike.mono{α β:Type}{R R':α->β->Prop}(h:∀x y,R x y->R' x y):∀ {xs:List α} {ys:List β},Alike R xs ys->Alike R' xs ys
 |[],[],_=>trivial
 |_::_,_::_,⟨h1,h2⟩=>⟨h _ _ h1,Alike.mono h h2⟩
 |[],_::_,h=>h.elim
 |_::_,[],h=>h.elim
def Fe(E:Env)(t:Ty)(v:Value)(x:t.den):Prop:=∃cs,dA E t cs x/\gI t.agg cs v
def Gj(E:Env)(kt vt:Ty)(e:gB)(x:kt.den×vt.den):Prop:=Fe E kt e.key x.1/\Fe E vt e.val x.2
theorem Gj.mono{E E':Env}(h:va E E'){kt vt:Ty}{e:gB}{x:kt.den×vt.den}(he:Gj E kt vt e x):Gj E' kt vt e x:=
 let⟨⟨c1,a1,b1⟩,c2,a2,b2⟩:=he
 ⟨⟨c1,a1.mono h,b1⟩,c2,a2.mono h,b2⟩
def ajr(E:Env)(kt vt:Ty)(es:List gB)(l:List (kt.den×vt.den)):Prop:=∃l',Alike (Gj E kt vt) es l'/\l'.Perm l
theorem ajr.mono{E E':Env}(h:va E E'){kt vt:Ty}{es:List gB}{l:List (kt.den×vt.den)}(hm:ajr E kt vt es l):ajr E' kt vt es l:=
 let⟨l',h1,h2⟩:=hm
 ⟨l',h1.mono λ_ _ he=>he.mono h,h2⟩
def pN(es:List gB)(clock:Nat):Prop:=(es.map (·.born)).Nodup/\∀e∈es,e.born < clock
theorem pN.nil(n:Nat):pN [] n:=⟨gM,λ_ h=>(by cases h)⟩
theorem pN.push{es:List gB}{clock:Nat}(h:pN es clock){e:gB}(he:e.born=clock):pN (es++ [e]) (clock+1):=by
 refine⟨?_,λx hx=> ?_⟩
 ·rw[s8,List.nodup_append];refine⟨h.1,by simp,λa ha b hb=> ?_⟩;obtain⟨x,hx,rfl⟩:=df.1 ha;have:=h.2 x hx;simp only[bY,iY,bp]at hb;omega
 ·rcases bD.1 hx with hx | hx
  ·have:=h.2 x hx;omega
  ·rw[bp]at hx;subst hx;omega
theorem pN.erase{es:List gB}{clock:Nat}(h:pN es clock)(j:Nat):pN (es.eraseIdx j) clock:=⟨h.1.sublist ((List.eraseIdx_sublist es j).map _),λx hx=>h.2 x ((List.eraseIdx_sublist es j).subset hx)⟩
theorem pN.set{es:List gB}{clock:Nat}(h:pN es clock){j:Nat}{e x:gB}(hj:es[j]? =av e)(hx:x.born=e.born):pN (es.set j x) clock:=by
 have iA:=(dX.1 hj).1;have aXP:=(dX.1 hj).2;have e1:(es.set j x).map (·.born)=es.map (·.born):=by
  rw[List.map_set,hx,<-aXP];have:es[j].born=(es.map (·.born))[j]'(by simpa using iA):=by simp
  rw[this,iv]
 refine⟨by rw[e1];exact h.1,λy hy=> ?_⟩;rcases List.mem_or_eq_of_mem_set hy with hy | hy
 ·exact h.2 y hy
 ·rw[hy,hx,<-aXP];exact h.2 _ (aO iA)
def aVr(E:Env)(id:Id)(kt vt:Ty)(l:List (kt.den×vt.den)):Prop:=
 ∃pl es clock,E.β id=av pl/\E.w.heap[pl.b]? =av (.map es clock)/\E.g pl.b= .own (.id id) 0/\(ajr E kt vt es.toList l/\(l.map (·.1)).Nodup)/\pN es.toList clock
def aQa(E:Env)(i q:Id)(ver:Nat)(kt vt:Ty)(rest:List (kt.den×vt.den))(cur:Option (kt.den×vt.den)):Prop:=
 ∃pl mb since seen c0,E.β i=av pl/\E.w.heap[pl.b]? =av (.mapIter (av mb) since seen c0)/\E.g pl.b= .own (.id i) 0/\∀vr,ver=vr+1->E.Ij q vr/\
  (E.cur q vr->(∃k v l,E.s q=av (.obj vr aZ (.mp k v l)))/\∃plq es clock,E.β q=av plq/\plq.b=mb/\E.w.heap[plq.b]? =av (.map es clock)/\E.g plq.b= .own (.id q) 0/\
   (∀x∈es.toList,x.born < since)/\(since<=c0/\since<=clock)/\(es.toList.map (·.born)).Nodup/\ajr E kt vt (es.toList.filter λe=> !seen.contains e.born) rest/\
   ∀x,cur=av x->∃(e:gB) (seen':Array Nat),e∈es.toList/\seen=seen'.push e.born/\c0=clock/\Gj E kt vt e x)
def aqS:Nat->LoopState->Option Code->Prop
 | 0,st,pe=>st= .ready/\pe=aD
 | 1,st,_=>st= .busy
 | 2,st,pe=>st= .done/\pe=av .ret
 |n+3,st,pe=>st= .done/\pe=av (.exit n)
def Gk(E:Env)(f:aC)(tmps:Array Value):Prop:=f.list.length=tmps.size/\∀i,VS E (f.list.getD i .undef) (tmps.getD i undef)
def aVs(E:Env)(id:Id)(c:wV)(f:aC)(p:Nat):Prop:=∃pl r,E.β id=av pl/\E.w.heap[pl.b]? =av (.loop r)/\E.g pl.b= .own (.id id) 0/\(r.params=c.ps/\r.assign=c.as/\r.body=c.b)/\Gk E f r.tmps/\aqS p r.state r.pending
def yz(E:Env)(id:Id)(fr:Bool):aC->Prop
 | .sS c f p=>aVs E id c f p
 | .vec e t l=>aTc E id fr e t l
 | .mp kt vt l=>aVr E id kt vt l
 | .uE q ver kt vt rest cur=>aQa E id q ver kt vt rest cur
 |c=>UA E id fr c
theorem yz.box{E:Env}{id:Id}{fr:Bool}{c:aC}(h:yz E id fr c)(hn:c.jy=aQ):UA E id fr c:=by cases c <;> first | exact h | (simp[aC.jy]at hn)
theorem UA.obj{E:Env}{id:Id}{fr:Bool}{c:aC}(h:UA E id fr c):yz E id fr c:=by cases c <;> first | exact h | (obtain⟨_,_,_,_,_,_,_,hv⟩:=h;simp only[aC.strip,V]at hv)
def jE(E:Env):Prop:=∀id ver fr c,E.s id=av (.obj ver fr c)->yz E id fr c
structure Trans(w w':cd)(g g':Nat->np):Prop where
 os:w'.os=w.os
 tape:w'.tape=w.tape
 output:w'.output=w.output/\w.drawn<=w'.drawn
 size:w.heap.size<=w'.heap.size
 UP:∀b,b < w.heap.size->match g b with
  | .free=>g' b= .free/\w'.heap[b]? =w.heap[b]?
  | .own .eY k=>g' b= .own .eY k/\w'.heap[b]? =w.heap[b]?
  | .own (.id _) k=>(g' b= .free\/∃i k',g' b= .own (.id i) k'/\k<=k')/\∀off v,off < k->w.cell? ⟨b,off,aD⟩=av v->w'.cell? ⟨b,off,aD⟩=av v
theorem Trans.refl(w:cd)(g:Nat->np):Trans w w g g:=
 ⟨rfl,rfl,⟨rfl,ay _⟩,ay _,λb _=>by
  cases g b with
  |free=>exact⟨rfl,rfl⟩
  |own o k=>cases o with
   |eY=>exact⟨rfl,rfl⟩
   |id i=>exact⟨.inr ⟨i,k,rfl,ay _⟩,λ_ _ _ h=>h⟩⟩
theorem Trans.trans{w w' w'':cd}{g g' g'':Nat->np}(h:Trans w w' g g')(h':Trans w' w'' g' g''):Trans w w'' g g'':=by
 refine⟨h'.os.trans h.os,h'.tape.trans h.tape,⟨h'.output.1.trans h.output.1,jb h.output.2 h'.output.2⟩,jb h.size h'.size,λb hb=> ?_⟩;have h1:=h.UP b hb;have h2:=h'.UP b (Nat.lt_of_lt_of_le hb h.size);cases hg:g b with
 |free=>
  rw[hg]at h1;simp only at h1 ⊢;rw[h1.1]at h2;simp only at h2;exact⟨h2.1,h2.2.trans h1.2⟩
 |own o k=>
  cases o with
  |eY=>
   rw[hg]at h1;simp only at h1 ⊢;rw[h1.1]at h2;simp only at h2;exact⟨h2.1,h2.2.trans h1.2⟩
  |id i=>
   rw[hg]at h1;simp only at h1 ⊢;obtain⟨aTt,aXB⟩:=h1;rcases aTt with aTt | ⟨i',k',aTt,hk⟩
   ·rw[aTt]at h2;simp only at h2;exact⟨.inl h2.1,λoff v ho hv=>by
     have:=aXB off v ho hv;simpa only[fq,h2.2]using this⟩
   ·rw[aTt]at h2;simp only at h2;refine⟨?_,λoff v ho hv=>h2.2 off v ak (aXB off v ho hv)⟩;rcases h2.1 with aVK | ⟨i'',k'',aVK,hk'⟩
    ·exact .inl aVK
    ·exact .inr ⟨i'',k'',aVK,ak⟩
theorem Trans.mem{E E':Env}(h:Trans E.w E'.w E.g E'.g):va E E':=by
 refine⟨?_,λb ob hf ho=>by
  have h1:=h.UP b (bX.1 ho).1;rw[hf]at h1;exact⟨h1.1,h1.2.trans ho⟩⟩
 intro b off v ⟨hc,ho⟩;have hb:b < E.w.heap.size:=World.block_lt_of_cell? _ _ hc;have h1:=h.UP b hb;unfold Env.has wK at*;cases hg:E.g b with
 |free=>
  rw[hg]at h1;simp only at h1;refine⟨?_,by rw[h1.1];trivial⟩;simpa only[fq,h1.2]using hc
 |own o k=>
  rw[hg]at ho;simp only at ho;cases o with
  |eY=>
   rw[hg]at h1;simp only at h1;refine⟨?_,by rw[h1.1];exact ho⟩;simpa only[fq,h1.2]using hc
  |id i=>
   rw[hg]at h1;simp only at h1;refine⟨h1.2 off v ho hc,?_⟩;rcases h1.1 with h2 | ⟨i',k',h2,hk⟩
   ·rw[h2];trivial
   ·rw[h2];show off < k';omega
theorem Gk.mono{E E':Env}(h:db E E'){f:aC}{tmps:Array Value}(hs:Gk E f tmps):Gk E' f tmps:=⟨hs.1,λi=>(hs.2 i).mono h⟩
theorem yz.aPW{E E':Env}(h:db E E'){id:Id}{fr:Bool}{c:aC}(ho:yz E id fr c)(hβ:E'.β id=E.β id)
    (hb:∀pl,E.β id=av pl->E'.w.heap[pl.b]? =E.w.heap[pl.b]? /\E'.g pl.b=E.g pl.b)
    (hq:∀q ver k v l,(∃kt vt rest cu,c= .uE q (ver+1) kt vt rest cu)->E.s q=av (.obj ver aZ (.mp k v l))->E'.cur q ver->(∃k v l,E'.s q=av (.obj ver aZ (.mp k v l)))/\∀pl,E.β q=av pl->E'.w.heap[pl.b]? =E.w.heap[pl.b]? /\E'.g pl.b=E.g pl.b):yz E' id fr c:=by
  by_cases hn:c.jy=aQ
  · obtain⟨pl,cur,e,h1,h2,h3,h5,h4⟩:=ho.box hn
    obtain⟨b1,b2⟩:=hb pl h1;exact UA.obj ⟨pl,cur,e,by rw[hβ,h1],by rw[b1,h2],by rw[b2,h3],h5,h4.mono h⟩
  · cases c <;> first
      | (exact absurd rfl hn)
      | (obtain⟨pl,r,h1,h2,h3,h4,h5,h6⟩:=ho
         obtain⟨b1,b2⟩:=hb pl h1;exact⟨pl,r,by rw[hβ,h1],by rw[b1,h2],by rw[b2,h3],h4,h5.mono h,h6⟩)
      | (obtain⟨pl,es,clock,h1,h2,h3,h4⟩:=ho
         obtain⟨b1,b2⟩:=hb pl h1;exact⟨pl,es,clock,by rw[hβ,h1],by rw[b1,h2],by rw[b2,h3],⟨h4.1.1.mono h.mem,h4.1.2⟩,h4.2⟩)
      | (obtain⟨pl,mb,since,seen,c0,h1,h2,h3,hv⟩:=ho
         obtain⟨b1,b2⟩:=hb pl h1;refine⟨pl,mb,since,seen,c0,by rw[hβ,h1],by rw[b1,h2],by rw[b2,h3],λvr asm=> ?_⟩;obtain⟨h4,h5⟩:=hv vr asm;refine⟨h.Ij _ _ h4,λhc=> ?_⟩;obtain⟨c1,e1⟩:=h.cur _ _ h4 hc;obtain⟨⟨k,v,l,hk⟩,plq,es,clock,g1,g2,g3,g4,g5,g6,g7,g8,g9⟩:=h5 c1;obtain⟨q1,q2⟩:=hq _ _ _ _ _ ⟨_,_,_,_,by rw[asm]⟩ hk hc;obtain⟨q3,q4⟩:=q2 plq g1;exact⟨q1,plq,es,clock,by rw[e1,g1],g2,by rw[q3,g3],by rw[q4,g4],g5,g6,g7,g8.mono h.mem,λx hx=>
           let⟨e,se,a1,a2,a3,a4⟩:=g9 x hx
           ⟨e,se,a1,a2,a3,a4.mono h.mem⟩⟩)
      |skip
    rename_i e t l;obtain⟨hz,ho⟩:=ho;refine⟨hz,?_⟩;rw[hβ];cases hp:E.β id with
    |none=>rw[hp]at ho;exact ho
    |some pl=>
      rw[hp]at ho;simp only at ho ⊢;obtain⟨b1,b2⟩:=hb pl hp;obtain⟨cur,k,h1,h2,h3,h4,h5,h6,h7,h8⟩:=ho;exact⟨cur,k,by rw[b1,h1],h2,h3,h4,by rw[b2,h5],h6,h7,h8.mono λc x hx=>hx.mono h.mem⟩
theorem yz.mono{E E':Env}(h:db E E'){id:Id}{fr:Bool}{c:aC}(ho:yz E id fr c)(hβ:E'.β id=E.β id)(hb:∀pl,E.β id=av pl->E'.w.heap[pl.b]? =E.w.heap[pl.b]? /\E'.g pl.b=E.g pl.b)(hq:∀q ver k v l,E.s q=av (.obj ver aZ (.mp k v l))->E'.cur q ver->(∃k v l,E'.s q=av (.obj ver aZ (.mp k v l)))/\∀pl,E.β q=av pl->E'.w.heap[pl.b]? =E.w.heap[pl.b]? /\E'.g pl.b=E.g pl.b):yz E' id fr c:=ho.aPW h hβ hb λq ver k v l _=>hq q ver k v l
def AS.env(s:AS)(w:cd)(g:Nat->np)(β:Id->Option Pl):Env:= {w,g,β,s:=s.cq}
structure Ctx where
 E:Env
def Ctx.ok(C:Ctx):Prop:=(∀i j,C.E.s (.new i j)=aD)/\∀k v fr c,C.E.s (.bt k)=av (.obj v fr c)->v=0
def w9(D:Nat):Deferred:= {target:= .collected D,args:= #[]}
def awR(n:Nat)(ds:List Deferred)(w:cd)(g:Nat->np):Prop:=ds.Nodup/\∀d∈ds,∃D,d=w9 D/\n<=D/\w.heap[D]? =av (.deferred (av []))/\g D= .own .eY 0
theorem awR.mono{n:Nat}{ds:List Deferred}{w w':cd}{g g':Nat->np}(h:awR n ds w g)(ht:Trans w w' g g'):awR n ds w' g':=
 ⟨h.1,λd hd=>by
  obtain⟨D,h1,h2,h3,h4⟩:=h.2 d hd;have:=ht.UP D (bX.1 h3).1;rw[h4]at this;exact⟨D,h1,h2,this.2.trans h3,this.1⟩⟩
structure Inv(C:Ctx)(g:Nat->np)(β:Id->Option Pl)(s:AS)(a:Act)(w:cd):Prop where
 defers:awR C.E.w.heap.size a.defers w g
 size:a.tmps.size=s.cM.length
 cM:∀i,VS (s.env w g β) (s.slot i) (a.tmps.getD i undef)
 bT:jE (s.env w g β)
 trans:Trans C.E.w w C.E.g g
 le:db C.E (s.env w g β)
def jf(C:Ctx)(s:AS)(a:Act)(w:cd):Prop:=∃g β,Inv C g β s a w
theorem aeu(s:AS)(d:Nat)(v:aC)(i:Nat):(s.put (av d) v).slot i=if i=d/\d < s.cM.length then v else s.slot i:=by
 simp only[AS.put,AS.slot,aJ,List.getElem?_set];by_cases h:d=i
 ·subst h;by_cases hl:d < s.cM.length
  ·simp[hl]
  ·simp[hl]
 ·simp[h,Ne.symm h]
@[simp] theorem Ma(s:AS)(d:Option Tmp)(v:aC):(s.put d v).cq=s.cq:=by cases d <;> rfl
@[simp] theorem akw(s:AS)(d:Option Tmp)(v:aC)(w:cd)(g:Nat->np)(β:Id->Option Pl):(s.put d v).env w g β=s.env w g β:=by simp[AS.env]
theorem arO(a:Act)(d:Nat)(v:Value)(i:Nat):(a.put (av d) v).tmps.getD i undef=if i=d/\d < a.tmps.size then v else a.tmps.getD i undef:=by
 simp only[Act.put,cX,eF];by_cases h:d=i
 ·subst h;by_cases hl:d < a.tmps.size
  ·simp[hl]
  ·simp[hl]
 ·simp[h,Ne.symm h]
theorem Inv.put{C:Ctx}{g:Nat->np}{β:Id->Option Pl}{s:AS}{a:Act}{w:cd}(h:Inv C g β s a w)(d:Option Tmp){v:aC}{x:Value}(hv:VS (s.env w g β) v x):
  Inv C g β (s.put d v) (a.put d x) w:=by
 cases d with
 |none=>exact h
 |some d=>
  refine⟨h.defers,by simpa[Act.put,AS.put]using h.size,λi=> ?_,by simpa using h.bT,h.trans,by simpa using h.le⟩;rw[akw,aeu,arO,h.size];split
  ·exact hv
  ·exact h.cM i
theorem Inv.step{C:Ctx}{g g':Nat->np}{β β':Id->Option Pl}{s s':AS}{a:Act}{w w':cd}(h:Inv C g β s a w)(hs:s'.cM=s.cM)
  (ht:Trans w w' g g') (he:db (s.env w g β) (s'.env w' g' β')) (ho:jE (s'.env w' g' β')):Inv C g' β' s' a w':=
 ⟨h.defers.mono ht,by rw[hs];exact h.size,λi=>by
  have:s'.slot i=s.slot i:=by simp[AS.slot,hs]
  rw[this];exact(h.cM i).mono he,ho,h.trans.trans ht,h.le.trans he⟩
theorem aEq{E:Env}(v:Value):VS E (ofConst v) v:=by
 cases v with
 |bool b=>exact⟨_,by simp[ofConst,V,dA],rfl⟩
 |int k n=>exact⟨_,by simp[ofConst,V,dA],rfl⟩
 |string s=>exact⟨_,by simp[ofConst,V,dA],rfl⟩
 |slice a l c=>cases a with
  |none=>
   cases l with
   |zero=>cases c with
    |zero=>exact⟨_,by simp[ofConst,V],rfl⟩
    |succ _=>trivial
   |succ _=>trivial
  |some _=>trivial
 |pointer a=>cases a with
  |none=>exact⟨_,by simp[ofConst,V],rfl⟩
  |some _=>trivial
 |map r=>cases r with
  |none=>exact⟨_,by simp[ofConst,V],rfl⟩
  |some _=>trivial
 |nilFunc=>exact⟨_,by simp[ofConst,V],rfl⟩
 |_=>trivial
theorem Inv.ev{C:Ctx}{g:Nat->np}{β:Id->Option Pl}{s:AS}{a:Act}{w:cd}(h:Inv C g β s a w)(x:bU):VS (s.env w g β) (s.ev x) (a.eval x):=by
 cases x with
 |tmp t=>exact h.cM t
 |const v=>exact aEq v
 |func f=>exact⟨_,by simp only[AS.ev,V];exact⟨[],rfl,by simp[VC]⟩,rfl⟩
 |global _=>trivial
theorem fk(s:AS)(id:Id)(e:dW)(h:s.cq id≠aD):(s.bq id e).cq id=av e:=by
 cases id with
 |bt k=>
  simp only[AS.cq,AS.bq]at*;have hk:k < s.cz.length:=by
   rcases rh k s.cz.length with h' | h'
   ·exact h'
   ·exact absurd (dY h') h
  simp[hk]
 |new i j=>
  simp only[AS.cq,AS.bq]at*;have hj:j < (s.news.getD i []).length:=by
   rcases rh j (s.news.getD i []).length with h' | h'
   ·exact h'
   ·exact absurd (dY h') h
  have hi:i < s.news.length:=by
   rcases rh i s.news.length with h' | h'
   ·exact h'
   ·simp[dY h']at hj
  have:((s.news.set i ((s.news.getD i []).set j e)).getD i [])=(s.news.getD i []).set j e:=by simp[aJ,hi]
  rw[this];simp only[List.getElem?_set,hj,bM]
theorem dq(s:AS)(id id':Id)(e:dW)(h:id'≠id):(s.bq id e).cq id'=s.cq id':=by
 cases id with
 |bt k=>
  cases id' with
  |bt k'=>
   simp only[AS.cq,AS.bq];rw[eT (λe=>h (by rw[e]))]
  |new i j=>rfl
 |new i j=>
  cases id' with
  |bt k'=>rfl
  |new i' j'=>
   simp only[AS.cq,AS.bq];by_cases hi:i'=i
   ·subst hi;have hj:j≠j':=λe=>h (by rw[e])
    by_cases hl:i' < s.news.length
    ·have:((s.news.set i' ((s.news.getD i' []).set j e)).getD i' [])=(s.news.getD i' []).set j e:=by simp[aJ,hl]
     rw[this,eT hj]
    ·rw[List.set_eq_of_length_le ak]
   ·have:(s.news.set i ((s.news.getD i []).set j e)).getD i' []=s.news.getD i' []:=by simp only[aJ];rw[eT (Ne.symm hi)]
    rw[this]
@[simp] theorem dE(s:AS)(id:Id)(e:dW):(s.bq id e).cM=s.cM:=by cases id <;> rfl
@[simp] theorem aR8(s:AS)(i:Nat)(es:List dW):(s.born i es).cM=s.cM:=rfl
theorem eU{s:AS}{id:Id}{v:Nat}{fr:Bool}{c:aC}(h:s.obj id=av (v,fr,c)):s.cq id=av (.obj v fr c):=by
 unfold AS.obj at h;split at h
 ·rename_i h';simp at h;obtain⟨rfl,rfl,rfl⟩:=h;exact h'
 ·cases h
theorem db.bq{s:AS}{w w':cd}{g g':Nat->np}{β β':Id->Option Pl}{id:Id}{v v':Nat}{fr fr':Bool}{c c':aC}(hs:s.cq id=av (.obj v fr c))(hv:v<=v')
  (ht:Trans w w' g g') (hβ:∀i,i≠id->β' i=β i) (hβ':v'=v->β' id=β id):db (s.env w g β) ((s.bq id (.obj v' fr' c')).env w' g' β'):=by
 have mm:=fk s id (.obj v' fr' c') (by rw[hs];simp);refine⟨Trans.mem ht,λi ver hb=> ?_,λi ver hb hc=> ?_⟩
 ·by_cases hi:i=id
  ·subst hi;obtain⟨_,h2⟩:=hb;refine⟨by show(s.bq i (.obj v' fr' c')).cq i≠aD;rw[mm];simp,λv'' fr'' c'' he=> ?_⟩;have he':(s.bq i (.obj v' fr' c')).cq i=av (.obj v'' fr'' c''):=he;rw[mm]at he';simp only[aA,dW.obj.injEq]at he';have:=h2 v fr c hs;omega
  ·have:=dq s id i (.obj v' fr' c') hi;obtain⟨h1,h2⟩:=hb;exact⟨by show(s.bq id (.obj v' fr' c')).cq i≠aD;rw[this];exact h1,λv'' fr'' c'' he=>h2 v'' fr'' c'' (this.symm.trans he)⟩
 ·obtain⟨fr'',c'',hc⟩:=hc;by_cases hi:i=id
  ·subst hi;have hc':(s.bq i (.obj v' fr' c')).cq i=av (.obj ver fr'' c''):=hc;rw[mm]at hc';simp only[aA,dW.obj.injEq]at hc';have h2:=hb.2 v fr c hs;have e:v'=v:=ak;refine⟨⟨fr,c,?_⟩,hβ' e⟩;rw[<-hc'.1,e];exact hs
  ·have hc':(s.bq id (.obj v' fr' c')).cq i=av (.obj ver fr'' c''):=hc;rw[dq s id i _ hi]at hc';exact⟨⟨fr'',c'',hc'⟩,hβ i hi⟩
theorem jE.bq{s:AS}{w w':cd}{g g':Nat->np}{β β':Id->Option Pl}{id:Id}{v':Nat}{fr':Bool}{c':aC}(h:jE (s.env w g β))(il:s.cq id≠aD)
  (he:db (s.env w g β) ((s.bq id (.obj v' fr' c')).env w' g' β')) (hβ:∀i,i≠id->β' i=β i)
  (hb:∀i ver fr c pl,i≠id->s.cq i=av (.obj ver fr c)->β i=av pl->w'.heap[pl.b]? =w.heap[pl.b]? /\g' pl.b=g pl.b)
  (ho:yz ((s.bq id (.obj v' fr' c')).env w' g' β') id fr' c')
  (am2:∀ver k v l,s.cq id=av (.obj ver aZ (.mp k v l))->v'=ver/\fr'=aZ/\(∃k v l,c'= .mp k v l)/\∀pl,β id=av pl->w'.heap[pl.b]? =w.heap[pl.b]? /\g' pl.b=g pl.b):jE ((s.bq id (.obj v' fr' c')).env w' g' β'):=by
 intro i ver fr c hi;by_cases dr:i=id
 ·subst dr;have hi':(s.bq i (.obj v' fr' c')).cq i=av (.obj ver fr c):=hi;rw[fk s i _ il]at hi';simp only[aA,dW.obj.injEq]at hi';obtain⟨rfl,rfl,rfl⟩:=hi';exact ho
 ·have hi':(s.bq id (.obj v' fr' c')).cq i=av (.obj ver fr c):=hi;rw[dq s id i _ dr]at hi';refine(h i ver fr c hi').mono he (hβ i dr) (λpl hp=>hb i ver fr c pl dr hi' hp) λq vq k v l hq hc=> ?_
  have hq:s.cq q=av (.obj vq aZ (.mp k v l)):=hq;by_cases aWm:q=id
  ·subst aWm;obtain⟨rfl,rfl,⟨k',v',l',rfl⟩,aSH⟩:=am2 _ _ _ _ hq;exact⟨⟨k',v',l',fk s q _ il⟩,aSH⟩
  ·exact⟨⟨k,v,l,by show(s.bq id _).cq q=_;rw[dq s id q _ aWm];exact hq⟩,λpl hp=>hb q vq aZ _ pl aWm hq hp⟩
theorem ZO{s:AS}{w:cd}{g:Nat->np}{β:Id->Option Pl}{id:Id}{v:Nat}{fr:Bool}{c:aC}(hs:s.cq id=av (.obj v fr c)):
  ∀ver k v1 l,s.cq id=av (.obj ver aZ (.mp k v1 l))->v=ver/\aZ=aZ/\(∃k v l,c= .mp k v l)/\∀pl,β id=av pl->w.heap[pl.b]? =w.heap[pl.b]? /\g pl.b=g pl.b:=λver k v1 l hl=>by
 rw[hs]at hl;cases hl;exact⟨rfl,rfl,⟨_,_,_,rfl⟩,λ_ _=>⟨rfl,rfl⟩⟩
theorem rC{s:AS}{id:Id}{v:Nat}{fr:Bool}{c:aC}(hs:s.cq id=av (.obj v fr c))(hc:∀k v1 l,c≠ .mp k v1 l){Q:Nat->Prop}:
  ∀ver k v1 l,s.cq id=av (.obj ver aZ (.mp k v1 l))->Q ver:=λver k v1 l hl=>by
 rw[hs]at hl;cases hl;exact absurd rfl (hc _ _ _)
theorem Sv{s:AS}{id:Id}{v:Nat}{c:aC}(hs:s.cq id=av (.obj v aQ c)){Q:Nat->Prop}:
  ∀ver k v1 l,s.cq id=av (.obj ver aZ (.mp k v1 l))->Q ver:=λver k v1 l hl=>by
 rw[hs]at hl;cases hl
theorem LL{s:AS}{id:Id}{v:Nat}{fr:Bool}{c:aC}(hs:s.cq id=av (.obj v fr c))(h:s.wh id=aZ):fr=aQ:=by
 have e:s.obj id=av (v,fr,c):=by simp[AS.obj,hs]
 unfold AS.wh at h;rw[e]at h;simpa using h
theorem yz.label{E:Env}{id:Id}{fr:Bool}{c:aC}(h:yz E id fr c){pl:Pl}(hp:E.β id=av pl):
    pl.b < E.w.heap.size/\((∃k,E.g pl.b= .own (.id id) k)\/(fr=aZ/\E.g pl.b= .free)):=by
  by_cases hn:c.jy=aQ
  · obtain⟨pl',cur,e,h1,h2,h3,h4⟩:=h.box hn
    rw[hp]at h1;obtain rfl:pl=pl':=by simpa using h1
    refine⟨(bX.1 h2).1,?_⟩;cases fr with
    |true=>exact .inr ⟨rfl,h3⟩
    |false=>exact .inl ⟨0,h3⟩
  · cases c <;> first
      | (exact absurd rfl hn)
      | (obtain⟨pl',r,h1,h2,h3,_,_,_⟩:=h
         rw[hp]at h1;obtain rfl:pl=pl':=by simpa using h1
         exact⟨(bX.1 h2).1,.inl ⟨0,h3⟩⟩)
      | (obtain⟨pl',es,clock,h1,h2,h3,_⟩:=h
         rw[hp]at h1;obtain rfl:pl=pl':=by simpa using h1
         exact⟨(bX.1 h2).1,.inl ⟨0,h3⟩⟩)
      | (obtain⟨pl',mb,since,seen,c0,h1,h2,h3,_⟩:=h
         rw[hp]at h1;obtain rfl:pl=pl':=by simpa using h1
         exact⟨(bX.1 h2).1,.inl ⟨0,h3⟩⟩)
      |skip
    obtain⟨_,h⟩:=h;rw[hp]at h;obtain⟨cur,k,h1,_,_,_,h5,_⟩:=h;exact⟨(bX.1 h1).1,.inl ⟨k,h5⟩⟩
def oS{α:Type}(f:Nat->α)(b:Nat)(x:α):Nat->α:=λb'=>if b'=b then x else f b'
@[simp] theorem gm{α:Type}(f:Nat->α)(b:Nat)(x:α):oS f b x b=x:=by simp[oS]
theorem fZ{α:Type}(f:Nat->α)(b:Nat)(x:α){b':Nat}(h:b'≠b):oS f b x b'=f b':=by simp[oS,h]
def abS:aC->Nat->Prop
 | .vec _ t l,j=>j < l.length*t.size
 |_,_=>True
theorem abS.of{c:aC}(h:c.jy=aQ)(j:Nat):abS c j:=by cases c <;> first | trivial | (simp[aC.jy]at h)
theorem aFo{w:cd}{b:Nat}{es:Array gB}{clock:Nat}(h:w.heap[b]? =av (.map es clock))(j:Nat):w.cell? ⟨b,j,aD⟩=aD:=by simp[fq,h]
theorem akJ{C:Ctx}{g:Nat->np}{β:Id->Option Pl}{s:AS}{a:Act}{w:cd}(h:Inv C g β s a w)(id:Id):
    ∃g',Inv C g' β (s.freeze id) a w/\db (s.env w g β) ((s.freeze id).env w g' β)/\Trans w w g g'/\
      (∀v fr c,s.cq id=av (.obj v fr c)->∀pl,β id=av pl->∀j x,w.cell? ⟨pl.b,j,aD⟩=av x->
        abS c j->wK g' pl.b j):=by
  unfold AS.freeze;cases hs:s.cq id with
  |none=>exact⟨g,h,db.refl _,Trans.refl _ _,λ_ _ _ hh=>by cases hh⟩
  |some e=>
    cases e with
    |dead=>exact⟨g,h,db.refl _,Trans.refl _ _,λ_ _ _ hh=>by cases hh⟩
    |obj v fr c=>
      simp only;have mX:yz (s.env w g β) id fr c:=h.bT id v fr c hs;cases hp:β id with
      |none=>
        have ht:=Trans.refl w g;have he:db (s.env w g β) ((s.bq id (.obj v aZ c)).env w g β):=db.bq hs (ay _) ht (λ_ _=>rfl) (λ_=>rfl);refine⟨g,h.step (dE _ _ _) ht he ?_,he,ht,λ_ _ _ _ pl QP=>by cases QP⟩;refine jE.bq h.bT (by rw[hs];simp) he (λ_ _=>rfl) (λ_ _ _ _ _ _ _ _=>⟨rfl,rfl⟩) ?_ (ZO hs)
        by_cases hn:c.jy=aQ
        · obtain⟨pl,_,_,h1,_⟩:=mX.box hn
          have h1':β id=av pl:=h1;rw[hp]at h1';cases h1'
        · cases c <;> first
            | (exact absurd rfl hn)
            | (obtain⟨pl,_,h1,_⟩:=mX
               have h1':β id=av pl:=h1;rw[hp]at h1';cases h1')
            | (obtain⟨pl,_,_,h1,_⟩:=mX
               have h1':β id=av pl:=h1;rw[hp]at h1';cases h1')
            | (obtain⟨pl,_,_,_,_,h1,_⟩:=mX
               have h1':β id=av pl:=h1;rw[hp]at h1';cases h1')
            |skip
          obtain⟨hz,ho⟩:=mX;have ho':(match β id with
            |none=>_
            |some pl=>_):=ho
          refine⟨hz,?_⟩;show(match β id with
            |none=>_
            |some pl=>_)
          rw[hp]at ho' ⊢;exact ho'
      |some pl=>
        have aTV:=mX.label (pl:=pl) hp;by_cases hn:c.jy=aQ
        · obtain⟨pl',cur,e,h1,h2,h3,h5,h4⟩:=mX.box hn
          have h1':β id=av pl':=h1;rw[hp]at h1';obtain rfl:pl=pl':=by simpa using h1'
          have h3':g pl.b=as4 id fr:=h3;have ht:Trans w w g (oS g pl.b .free):=by
            refine⟨rfl,rfl,⟨rfl,ay _⟩,ay _,λb hb=> ?_⟩;by_cases akO:b=pl.b
            · subst akO
              rw[h3',gm];cases fr with
              |true=>exact⟨rfl,rfl⟩
              |false=>exact⟨.inl rfl,λ_ _ _ hh=>hh⟩
            · rw[fZ _ _ _ akO]
              exact(Trans.refl w g).UP b hb
          have he:db (s.env w g β) ((s.bq id (.obj v aZ c)).env w (oS g pl.b .free) β):=db.bq hs (ay _) ht (λ_ _=>rfl) (λ_=>rfl);refine⟨oS g pl.b .free,h.step (dE _ _ _) ht he ?_,he,ht,?_⟩
          · refine jE.bq h.bT (by rw[hs];simp) he (λ_ _=>rfl) (λi ver fr' c' pl' hi dh QP=>⟨rfl,?_⟩) ?_ (rC hs λk v1 l e=>by rw[e]at hn;simp[aC.jy]at hn)
            · by_cases akO:pl'.b=pl.b
              · rw[akO,gm]
                have hl:=(h.bT i ver fr' c' dh).label (pl:=pl') QP;have at0:(∃k,g pl'.b= .own (.id i) k)\/(fr'=aZ/\g pl'.b= .free):=hl.2;rw[akO,h3']at at0;cases fr with
                |true=>exact h3'.symm▸rfl
                |false=>
                  exfalso;rcases at0 with⟨k,hk⟩ | ⟨_,hk⟩
                  · simp only[as4,np.own.injEq,Own.id.injEq]at hk
                    exact hi hk.1.symm
                  · cases hk
              · rw[fZ _ _ _ akO]
            · exact UA.obj ⟨pl,cur,e,hp,h2,gm _ _ _,h5,V.mono he h4⟩
          · intro v1 fr1 c1 hh pl1 akU j x hx hj
            obtain rfl:pl=pl1:=by simpa using akU
            unfold wK;rw[gm];trivial
        · cases c <;> first | (exact absurd rfl hn) | skip
          rotate_left;rotate_left
          · rename_i q vq kt vt rest cu
            have ht:=Trans.refl w g;have he:db (s.env w g β) ((s.bq id (.obj v aZ (.uE q vq kt vt rest cu))).env w g β):=db.bq hs (ay _) ht (λ_ _=>rfl) (λ_=>rfl);have hob':=mX;obtain⟨pl',mb,since,seen,c0,h1,h2,_⟩:=mX;have h1':β id=av pl':=h1;rw[hp]at h1';obtain rfl:pl=pl':=by simpa using h1'
            refine⟨g,h.step (dE _ _ _) ht he ?_,he,ht,λ_ _ _ _ pl1 akU j x hx _=> ?_⟩
            · refine jE.bq h.bT (by rw[hs];simp) he (λ_ _=>rfl) (λ_ _ _ _ _ _ _ _=>⟨rfl,rfl⟩) ?_ (ZO hs)
              exact yz.mono he (fr:=aZ) hob' rfl (λ_ _=>⟨rfl,rfl⟩) λq2 v2 k2 v3 l2 Vi _=>⟨⟨k2,v3,l2,by
                have Vi:s.cq q2=av (.obj v2 aZ (.mp k2 v3 l2)):=Vi;have il:q2≠id:=λe=>by rw[e,hs]at Vi;cases Vi
                show(s.bq id _).cq q2=_;rw[dq s id q2 _ il];exact Vi⟩,λ_ _=>⟨rfl,rfl⟩⟩
            · obtain rfl:pl=pl1:=by simpa using akU
              have h2:w.heap[pl.b]? =av (.mapIter (av mb) since seen c0):=h2
              simp[fq,h2]at hx
          · rename_i k f p
            have ht:=Trans.refl w g;have he:db (s.env w g β) ((s.bq id (.obj v aZ (.sS k f p))).env w g β):=db.bq hs (ay _) ht (λ_ _=>rfl) (λ_=>rfl);obtain⟨pl',r,h1,h2,h3,h4,h5,h6⟩:=mX;have h1':β id=av pl':=h1;rw[hp]at h1';obtain rfl:pl=pl':=by simpa using h1'
            refine⟨g,h.step (dE _ _ _) ht he ?_,he,ht,λ_ _ _ _ pl1 akU j x hx _=> ?_⟩
            · exact jE.bq h.bT (by rw[hs];simp) he (λ_ _=>rfl) (λ_ _ _ _ _ _ _ _=>⟨rfl,rfl⟩) ⟨pl,r,hp,h2,h3,h4,h5.mono he,h6⟩ (ZO hs)
            · obtain rfl:pl=pl1:=by simpa using akU
              have h2:w.heap[pl.b]? =av (.loop r):=h2
              simp[fq,h2]at hx
          rotate_left
          · obtain⟨pl',es,clock,h1,h2,h3,h4⟩:=mX
            have h1':β id=av pl':=h1;rw[hp]at h1';obtain rfl:pl=pl':=by simpa using h1'
            have ht:=Trans.refl w g;rename_i kt vt l;have he:db (s.env w g β) ((s.bq id (.obj v aZ (.mp kt vt l))).env w g β):=db.bq hs (ay _) ht (λ_ _=>rfl) (λ_=>rfl);refine⟨g,h.step (dE _ _ _) ht he ?_,he,ht,λ_ _ _ _ pl1 akU j x hx _=> ?_⟩
            · exact jE.bq h.bT (by rw[hs];simp) he (λ_ _=>rfl) (λ_ _ _ _ _ _ _ _=>⟨rfl,rfl⟩) ⟨pl,es,clock,hp,h2,h3,⟨h4.1.1.mono he.mem,h4.1.2⟩,h4.2⟩ (ZO hs)
            · obtain rfl:pl=pl1:=by simpa using akU
              have h2:w.heap[pl.b]? =av (.map es clock):=h2
              rw[aFo h2]at hx;cases hx
          rename_i e t l;obtain⟨hz,ho⟩:=mX;have ho':(match β id with
            |none=>l=[]
            |some pl=>∃cur k,w.heap[pl.b]? =av (.cells cur e (0,0))/\cur.size=pl.cap*t.size/\l.length<=pl.cap/\pl.cap<=maxLen/\g pl.b= .own (.id id) k/\
                k<=l.length*t.size/\(fr=aQ->k=0)/\bI (dA (s.env w g β) t) (cur.toList.take (l.length*t.size)) l):=ho
          rw[hp]at ho';obtain⟨cur,k,h1,h2,h3,h4,h5,h6,h7,h8⟩:=ho';have ht:Trans w w g (oS g pl.b (.own (.id id) (l.length*t.size))):=by
            refine⟨rfl,rfl,⟨rfl,ay _⟩,ay _,λb hb=> ?_⟩;by_cases akO:b=pl.b
            · subst akO
              rw[h5,gm];exact⟨.inr ⟨id,_,rfl,h6⟩,λ_ _ _ hh=>hh⟩
            · rw[fZ _ _ _ akO]
              exact(Trans.refl w g).UP b hb
          have he:db (s.env w g β) ((s.bq id (.obj v aZ (.vec e t l))).env w (oS g pl.b (.own (.id id) (l.length*t.size))) β):=db.bq hs (ay _) ht (λ_ _=>rfl) (λ_=>rfl);refine⟨_,h.step (dE _ _ _) ht he ?_,he,ht,?_⟩
          · refine jE.bq h.bT (by rw[hs];simp) he (λ_ _=>rfl) (λi ver fr' c' pl' hi dh QP=>⟨rfl,?_⟩) ?_ (rC hs λk v1 l e=>by cases e)
            · by_cases akO:pl'.b=pl.b
              · exfalso
                have hl:=(h.bT i ver fr' c' dh).label (pl:=pl') QP;have at0:(∃k,g pl'.b= .own (.id i) k)\/(fr'=aZ/\g pl'.b= .free):=hl.2;rw[akO,h5]at at0;rcases at0 with⟨k,hk⟩ | ⟨_,hk⟩
                · simp only[np.own.injEq,Own.id.injEq]at hk
                  exact hi hk.1.symm
                · cases hk
              · rw[fZ _ _ _ akO]
            · refine⟨hz,?_⟩
              show(match β id with
                |none=>l=[]
                |some pl=>_)
              rw[hp];exact⟨cur,_,h1,h2,h3,h4,gm _ _ _,ay _,(by intro hh;cases hh),h8.mono λc x hx=>hx.mono he.mem⟩
          · intro v1 fr1 c1 hh pl1 akU j x hx hj
            obtain rfl:pl=pl1:=by simpa using akU
            simp only[aA,dW.obj.injEq]at hh;obtain⟨_,_,rfl⟩:=hh;unfold wK;rw[gm];exact hj
end Go.Ab
namespace Go.Ab
def aTa(E E':Env)(ids:List Id):Prop:=∀id∈ids,∀v fr c,E.s id=av (.obj v fr c)->∀pl,E.β id=av pl->∀j x,E.w.cell? ⟨pl.b,j,aD⟩=av x->abS c j->E'.has pl.b j x
theorem abt{s:AS}{id i:Id}{v:Nat}{fr:Bool}{c:aC}(h:s.cq i=av (.obj v fr c)):∃fr',(s.freeze id).cq i=av (.obj v fr' c):=by
 unfold AS.freeze;by_cases hi:i=id
 ·subst hi;rw[h];exact⟨aZ,fk s i _ (by rw[h];simp)⟩
 ·split
  ·exact⟨fr,by rw[dq s id i _ hi];exact h⟩
  ·exact⟨fr,h⟩
theorem gh{C:Ctx}{β:Id->Option Pl}{a:Act}{w:cd}:∀(ids:List Id) {g:Nat->np} {s:AS},Inv C g β s a w->
  ∃g',Inv C g' β (s.bG ids) a w/\db (s.env w g β) ((s.bG ids).env w g' β)/\Trans w w g g'/\aTa (s.env w g β) ((s.bG ids).env w g' β) ids
 |[],g,s,h=>⟨g,h,db.refl _,Trans.refl _ _,λ_ hi=>by cases hi⟩
 |id::ids,g,s,h=>by
  obtain⟨g1,h1,e1,t1,f1⟩:=akJ h id;obtain⟨g2,h2,e2,t2,f2⟩:=gh ids h1;refine⟨g2,h2,e1.trans e2,t1.trans t2,λi hi v fr c hs pl hp j x hx hj=> ?_⟩;rcases cv.1 hi with rfl | hi
  ·exact e2.mem.has _ _ _ ⟨hx,f1 v fr c hs pl hp j x hx hj⟩
  ·obtain⟨fr',hs'⟩:=abt (id:=id) hs;exact f2 i hi v fr' c hs' pl hp j x hx hj
theorem aml(s:AS)(id:Id):(s.freeze id).cM=s.cM:=by unfold AS.freeze;split <;> simp
theorem pd:∀(ids:List Id) (s:AS),(s.bG ids).cM=s.cM
 |[],_=>rfl
 |id::ids,s=>by rw[AS.bG,pd ids,aml]
theorem ap0(s:AS)(id:Id)(q:Nat):(s.freeze id).eS q=s.eS q:=by
 unfold AS.freeze;split
 ·rename_i v b c h;cases id with
  |bt k=>rfl
  |new i j=>
   simp only[AS.bq,AS.eS];by_cases hq:i=q
   ·subst hq;simp only[AS.cq]at h;by_cases hl:i < s.news.length
    ·rw[List.getElem?_set_self hl,cj hl];rw[aJ,cj hl]at h ⊢;simp only[eo]at h ⊢;cases hh:s.news[i]with
     |nil=>rw[hh]at h;simp at h
     |cons x xs=>cases j <;> simp[gN]
    ·rw[List.set_eq_of_length_le ak]
   ·rw[eT hq]
 ·rfl
theorem xw:∀(ids:List Id) (s:AS) (q:Nat),(s.bG ids).eS q=s.eS q
 |[],_,_=>rfl
 |id::ids,s,q=>by rw[AS.bG,xw ids,ap0]
theorem acg{e:TypeId}{t:Ty}:∀ {p:List MK} {n:Nat} {v:aC},(loc (.vec e t []) p).eval=av (n,v)->n=0/\v= .vec e t []
 |[],n,v,h=>by simp only[loc,az,cT]at h;exact⟨h.1.symm,h.2.symm⟩
 | .arr::p,n,v,h=>by simp only[loc]at h;exact acg h
 | .idx i::p,n,v,h=>by simp[loc,b8]at h
 | .fst::p,n,v,h=>by simp only[loc,aw]at h
 | .snd::p,n,v,h=>by simp only[loc,aw]at h
theorem ZR{k:wV}{f:aC}{m:Nat}:∀ {p:List MK} {n:Nat} {v:aC},(loc (.sS k f m) p).eval=av (n,v)->n=0/\v= .sS k f m
 |[],n,v,h=>by simp only[loc,az,cT]at h;exact⟨h.1.symm,h.2.symm⟩
 | .arr::p,n,v,h=>by simp only[loc]at h;exact ZR h
 | .idx i::p,n,v,h=>by simp only[loc,aw]at h
 | .fst::p,n,v,h=>by simp only[loc,aw]at h
 | .snd::p,n,v,h=>by simp only[loc,aw]at h
theorem ald{k t:Ty}{l:List (k.den×t.den)}:∀ {p:List MK} {n:Nat} {v:aC},(loc (.mp k t l) p).eval=av (n,v)->n=0/\v= .mp k t l
 |[],n,v,h=>by simp only[loc,az,cT]at h;exact⟨h.1.symm,h.2.symm⟩
 | .arr::p,n,v,h=>by simp only[loc]at h;exact ald h
 | .idx i::p,n,v,h=>by simp only[loc,aw]at h
 | .fst::p,n,v,h=>by simp only[loc,aw]at h
 | .snd::p,n,v,h=>by simp only[loc,aw]at h
theorem ZQ{q:Id}{ver:Nat}{k t:Ty}{l:List (k.den×t.den)}{cu:Option (k.den×t.den)}:∀ {p:List MK} {n:Nat} {v:aC},(loc (.uE q ver k t l cu) p).eval=av (n,v)->n=0/\v= .uE q ver k t l cu
 |[],n,v,h=>by simp only[loc,az,cT]at h;exact⟨h.1.symm,h.2.symm⟩
 | .arr::p,n,v,h=>by simp only[loc]at h;exact ZQ h
 | .idx i::p,n,v,h=>by simp only[loc,aw]at h
 | .fst::p,n,v,h=>by simp only[loc,aw]at h
 | .snd::p,n,v,h=>by simp only[loc,aw]at h
theorem V9{E:Env}{s:AS}(hs:E.s=s.cq)(ho:jE E){id:Id}{ver:Nat}{p:List MK}{n:Nat}{t:Ty}{l:List t.den}(h:(s.row id ver p).eval=av (n,⟨t,l⟩)):
    ∃fr c,E.s id=av (.obj ver fr c)/\((E.β id=aD/\l=[]/\n=0)\/∃pl cur e,E.β id=av pl/\E.w.heap[pl.b]? =av (.cells cur e (0,0))/\n+l.length*t.size<=cur.size/\
      bI (dA E t) ((cur.toList.drop n).take (l.length*t.size)) l/\
      ∀j,j < n+l.length*t.size->abS c j):=by
  unfold AS.row at h;cases mX:s.obj id with
  |none=>rw[mX]at h;simp only[aw]at h
  |some r=>
    obtain⟨v,fr,c⟩:=r;rw[mX]at h;obtain⟨h1,h2⟩:=aH.1 h;obtain⟨⟨n',v'⟩,h3,h4⟩:=ax.1 h2;have hv:v=ver:=by simpa using h1
    subst hv;have dh:E.s id=av (.obj v fr c):=by rw[hs];exact eU mX
    refine⟨fr,c,dh,?_⟩;have hO:=ho id v fr c dh
    have atW:∀(pl:Pl) (cur:Array Value) (e:TypeId) (m:Nat) (t':Ty) (l':List t'.den) (n':Nat),E.β id=av pl->E.w.heap[pl.b]? =av (.cells cur e (0,0))->c.jy=aQ->
        V E (.d (.arr m t') l') ((cur.toList.drop n').take (aC.d (.arr m t') l').size)->n'+(aC.d (.arr m t') l').size<=cur.toList.length->(Out.ok (n',(⟨t',l'⟩:(t:Ty)×List t.den))).eval=av (n,⟨t,l⟩)->
        ∃pl cur e,E.β id=av pl/\E.w.heap[pl.b]? =av (.cells cur e (0,0))/\n+l.length*t.size<=cur.size/\bI (dA E t) ((cur.toList.drop n).take (l.length*t.size)) l/\
          ∀j,j < n+l.length*t.size->abS c j:=by
      intro pl cur e m t' l' n' hp hh hn hv hl he;simp only[az,cT]at he;obtain⟨rfl,he⟩:=he;obtain⟨rfl,he⟩:=he;simp only[V,dA]at hv;obtain⟨aRn,Xx⟩:=hv;have uW:∀(t:Ty) (l:List t.den),l.length=m->(aC.d (.arr m t) l).size=l.length*t.size:=λt l hh=>by simp[aC.size,Ty.size,hh]
      rw[uW _ _ aRn]at Xx hl;exact⟨pl,cur,e,hp,hh,by simpa using hl,Xx,λj _=>abS.of hn j⟩
    by_cases hn:c.jy=aQ
    · right
      obtain⟨pl,cur,e,hp,hh,hg,hk,hV⟩:=hO.box hn;have hN:=Zy hk;generalize c.zd cur.size=N at hN hV;have hNl:(cur.toList.take N).length=N:=by rw[bB,c9];omega
      obtain⟨u,hu⟩:∃u,c.strip=u:=⟨_,rfl⟩;rw[hu]at hV h3;have aAI:∀m k:Nat,m+k<=(cur.toList.take N).length->((cur.toList.take N).drop m).take k=(cur.toList.drop m).take k/\m+k<=cur.toList.length:=λm k aNa=>by rw[hNl]at aNa;refine⟨?_,by rw[c9];omega⟩;rw[u9,fp,eH ak]
      rcases uH p u (cur.toList.take N) n' v' (VO.of hV) h3 with⟨rfl,rfl⟩ | ⟨hV',hle⟩
      · cases v' with
        |d t' x=>cases t' with
          |arr m t'=>
            have hs:=hV.size;have hc:=aAI 0 (aC.d (.arr m t') x).size ak;refine atW pl cur e m t' x 0 hp hh hn ?_ hc.2 (by simpa only using h4)
            rw[<-hc.1,aG,bk ak];exact hV
          |_=>simp only[aw]at h4
        |vec=>simp only[V]at hV
        |_=>simp only[aw]at h4
      · cases v' with
        |d t' x=>cases t' with
          |arr m t'=>
            have hc:=aAI _ _ hle;exact atW pl cur e m t' x n' hp hh hn (by rw[<-hc.1];exact hV') hc.2 (by simpa only using h4)
          |_=>simp only[aw]at h4
        |vec=>simp only[V]at hV'
        |_=>simp only[aw]at h4
    · cases c <;> first
        | (exact absurd rfl hn)
        | (obtain⟨rfl,rfl⟩:=ald h3
           simp only[aw]at h4)
        | (obtain⟨rfl,rfl⟩:=ZQ h3
           simp only[aw]at h4)
        | (obtain⟨rfl,rfl⟩:=ZR h3
           simp only[aw]at h4)
        |skip
      rename_i e t0 l0;obtain⟨hz,hO⟩:=hO;cases hp:E.β id with
      |none=>
        rw[hp]at hO;have aTU:l0=[]:=hO;subst aTU;obtain⟨rfl,rfl⟩:=acg h3;simp only[az,cT]at h4;obtain⟨rfl,he⟩:=h4;obtain⟨rfl,he⟩:=he;exact .inl ⟨rfl,rfl,rfl⟩
      |some pl=>
        rw[hp]at hO;obtain⟨cur,k,q1,q2,q3,q4,q5,q6,q7,q8⟩:=hO;right;have hlen:(cur.toList.take (l0.length*t0.size)).length=l0.length*t0.size:=bI.length (λc x hx=>dA.size hx) q8;have aHi:l0.length*t0.size<=cur.size:=by rw[q2];exact di _ q3
        rcases uH (E:=E) p (.vec e t0 l0) (cur.toList.take (l0.length*t0.size)) n' v' q8 h3 with⟨rfl,rfl⟩ | ⟨hV',hle⟩
        · simp only[az,cT]at h4
          obtain⟨rfl,he⟩:=h4;obtain⟨rfl,he⟩:=he;exact⟨pl,cur,e,rfl,q1,ak,by simpa using q8,λj hj=>by show j < l.length*t.size;omega⟩
        · have hle':=hle
          rw[hlen]at hle';rw[u9,fp,eH ak]at hV';cases v' with
          |d t' x=>cases t' with
            |arr m t'=>
              simp only[az,cT]at h4;obtain⟨rfl,he⟩:=h4;obtain⟨rfl,he⟩:=he;simp only[V,dA]at hV';obtain⟨aRn,Xx⟩:=hV';have uW:∀(t:Ty) (l:List t.den),l.length=m->(aC.d (.arr m t) l).size=l.length*t.size:=λt l hh=>by simp[aC.size,Ty.size,hh]
              rw[uW _ _ aRn]at Xx hle';refine⟨pl,cur,e,rfl,q1,ak,Xx,λj hj=> ?_⟩;show j < l0.length*t0.size;omega
            |_=>simp only[aw]at h4
          |vec=>simp only[V]at hV'
          |_=>simp only[aw]at h4
theorem Pc{E:Env}{t:Ty}{cs:List Value}{l:List t.den}(h:bI (dA E t) cs l)(i len:Nat):bI (dA E t) ((cs.drop (i*t.size)).take (len*t.size)) (cut l i len):=bI.take (λ_ _ hx=>hx.size) len (bI.drop (λ_ _ hx=>hx.size) i h)
theorem GP{α:Type}{l:List α}{i len:Nat}(h:i+len<=l.length):(cut l i len).length=len:=by simp[cut];omega
theorem arD{E E':Env}{s:AS}(hs:E.s=s.cq)(ho:jE E)(he:db E E'){id:Id}{ver c i len n:Nat}{p:List MK}{t':Ty}{l:List t'.den}{cs:List Value}
  (h1:(s.row id ver p).eval=av (n,⟨t',l⟩)) (h3:decide (n+i*t'.size=c/\i+len<=l.length)=aZ) (hv:V E (.bE id ver p c i len) cs) (hf:aTa E E' (aC.bE id ver p c i len).shared):dA E' (.slice t') cs (cut l i len):=by
 simp only[bf]at h3;obtain⟨hc,hlen⟩:=h3;obtain⟨fr,c0,dh,uc⟩:=V9 hs ho h1;simp only[V]at hv;obtain⟨a,cap,ao8,hle,sa,hb,gb⟩:=hv;have gb:=gb ⟨fr,c0,dh⟩;have aLC:(cut l i len).length=len:=GP hlen;simp only[dA];refine⟨a,cap,?_⟩;rcases uc with⟨hp,hl,_⟩ | ⟨pl,cur,e,hp,hh,uW,xL,hbound⟩
 ·rw[hp]at gb;simp only at gb;obtain⟨rfl,rfl,rfl⟩:=gb;refine⟨[],?_,ak,ak,λ_ _ hh=>by simp at hh,?_⟩
  ·rw[aLC];exact ao8
  ·have:cut l i 0=[]:=by simp[cut]
   rw[this];rfl
 ·rw[hp]at gb;simp only at gb;refine⟨((((cur.toList.drop n).take (l.length*t'.size)).drop (i*t'.size)).take (len*t'.size)),by rw[aLC];exact ao8,ak,by rw[aLC];exact sa,?_,(Pc xL i len).mono λ_ _ hx=>hx.mono he.mem⟩;have hmul:(i+len)*t'.size<=l.length*t'.size:=di _ hlen;rw[fe]at hmul;rw[adh _ _ _ _ _ hmul];intro j v hj;rw[dD]at hj;split at hj
  ·rename_i aRc;rw[gK,hc]at hj;have aV7:0 < len:=by
    rcases jD len with h0 | h0
    ·subst h0;simp at aRc
    ·exact h0
   refine⟨pl.b,c,gb.1 (.inl aV7),?_⟩;refine hf id (by simp[aC.shared]) ver fr c0 dh pl hp (c+j) v ?_ (hbound _ ak)
   rw[cell_of_row E.w pl.b (c+j) cur e (0,0) hh];simpa using hj
  ·cases hj
theorem y5{E E':Env}{s:AS}(hs:E.s=s.cq)(ho:jE E)(he:db E E'):∀(v:aC) (t:Ty) (x:t.den) (cs:List Value),V E v cs->(s.jT t v).eval=av x->aTa E E' v.shared->dA E' t cs x
 | .d t' x',t,x,cs,hv,h,_=>by
  have h':(Out.opt (JB t' t x')).eval=av x:=by cases t <;> simpa only[AS.jT]using h
  simp only[V]at hv;exact GD (lf.1 h') (hv.mono he.mem)
 | .dy,.slice t,x,cs,hv,h,_=>by simp only[AS.jT,az]at h;subst h;simp only[V]at hv;simp only[dA];exact⟨aD,0,[],by simpa using hv,by simp,by simp,λi v hh=>by simp at hh,rfl⟩
 | .dy,.iT t,x,cs,hv,h,_=>by simp only[AS.jT,az]at h;subst h;simp only[V]at hv;simp only[dA];exact⟨λ_=>hv,λl hl=>(by cases hl)⟩
 | .bE id ver p c i len,.iT t,x,cs,hv,h,hf=>by simp only[AS.jT]at h;obtain⟨⟨n,t',l⟩,h1,h2⟩:=ax.1 h;obtain⟨h3,h4⟩:=b8.1 h2;exact GD (lf.1 h4) (arD hs ho he h1 h3 hv hf)
 | .bE id ver p c i len,.slice t,x,cs,hv,h,hf=>by simp only[AS.jT]at h;obtain⟨⟨n,t',l⟩,h1,h2⟩:=ax.1 h;obtain⟨h3,h4⟩:=b8.1 h2;exact GD (lf.1 h4) (arD hs ho he h1 h3 hv hf)
 | .pr a b,.pair ta tb,x,cs,hv,h,hf=>by simp only[AS.jT]at h;obtain⟨x1,h1,h2⟩:=ax.1 h;obtain⟨x2,h3,h4⟩:=ax.1 h2;obtain rfl:=az.1 h4;simp only[V]at hv;obtain⟨ca,cb,e,ha,hb⟩:=hv;simp only[dA];exact⟨ca,cb,e,y5 hs ho he a ta x1 ca ha h1 (λi hi=>hf i (by simp[aC.shared,hi])),y5 hs ho he b tb x2 cb hb h3 (λi hi=>hf i (by simp[aC.shared,hi]))⟩
 | .dy,.int _,_,_,_,h,_ | .dy,.bool,_,_,_,h,_ | .dy,.str,_,_,_,h,_ | .dy,.unit,_,_,_,h,_ | .dy,.pair _ _,_,_,_,h,_ | .dy,.arr _ _,_,_,_,h,_ | .dy,.vC _,_,_,_,h,_=>by simp only[AS.jT,aw]at h
 | .bE ..,.int _,_,_,_,h,_ | .bE ..,.bool,_,_,_,h,_ | .bE ..,.str,_,_,_,h,_ | .bE ..,.unit,_,_,_,h,_ | .bE ..,.pair _ _,_,_,_,h,_ | .bE ..,.arr _ _,_,_,_,h,_ | .bE ..,.vC _,_,_,_,h,_=>by simp only[AS.jT,aw]at h
 | .pr _ _,.int _,_,_,_,h,_ | .pr _ _,.bool,_,_,_,h,_ | .pr _ _,.str,_,_,_,h,_ | .pr _ _,.unit,_,_,_,h,_ | .pr _ _,.slice _,_,_,_,h,_ | .pr _ _,.arr _ _,_,_,_,h,_ | .pr _ _,.iT _,_,_,_,h,_ | .pr _ _,.vC _,_,_,_,h,_=>by simp only[AS.jT,aw]at h
 | .undef,t,_,_,_,h,_=>by cases t <;> simp only[AS.jT,aw]at h
 | .gone,t,_,_,_,h,_=>by cases t <;> simp only[AS.jT,aw]at h
 | .sq,t,_,_,_,h,_=>by cases t <;> simp only[AS.jT,aw]at h
 | .yP,t,_,_,_,h,_=>by cases t <;> simp only[AS.jT,aw]at h
 | .yl ..,t,_,_,_,h,_ | .sS ..,t,_,_,_,h,_=>by cases t <;> simp only[AS.jT,aw]at h
 | .EB,t,_,_,_,h,_=>by cases t <;> simp only[AS.jT,aw]at h
 | .sb _,t,_,_,_,h,_=>by cases t <;> simp only[AS.jT,aw]at h
 | .ptr ..,t,_,_,_,h,_=>by cases t <;> simp only[AS.jT,aw]at h
 | .dV ..,t,_,_,_,h,_=>by cases t <;> simp only[AS.jT,aw]at h
 | .fn ..,t,_,_,_,h,_=>by cases t <;> simp only[AS.jT,aw]at h
 | .cons ..,t,_,_,_,h,_=>by cases t <;> simp only[AS.jT,aw]at h
 | .nil,t,_,_,_,h,_=>by cases t <;> simp only[AS.jT,aw]at h
 | .vec ..,t,_,_,_,h,_=>by cases t <;> simp only[AS.jT,aw]at h
 | .bx ..,t,_,_,_,h,_ | .cI ..,t,_,_,_,h,_ | .mp ..,t,_,_,_,h,_ | .uE ..,t,_,_,_,h,_=>by cases t <;> simp only[AS.jT,aw]at h
theorem Eb{s:AS}{t:Ty}{v:aC}{x:t.den}(h:(s.jT t v).eval=av x):v.fA=aZ:=by
 cases v <;> first
  |rfl
  | (cases t <;> simp only[AS.jT,aw]at h)
theorem aeU{s:AS}{t:Ty}{v:aC}{x:t.den}(h:(s.jT t v).eval=av x):v.agg=t.agg:=by
 cases v with
 |d t' x'=>
  have h':(Out.opt (JB t' t x')).eval=av x:=by cases t <;> simpa only[AS.jT]using h
  exact ahD (lf.1 h')
 |_=>cases t <;> first | rfl | (simp only[AS.jT,aw]at h)
theorem CH{C:Ctx}{g:Nat->np}{β:Id->Option Pl}{s:AS}{a:Act}{w:cd}(h:Inv C g β s a w){v:aC}{y:Value}(hv:VS (s.env w g β) v y){t:Ty}{x:t.den}(ht:(s.jT t v).eval=av x):
  ∃g',Inv C g' β (s.bG v.shared) a w/\db (s.env w g β) ((s.bG v.shared).env w g' β)/\Trans w w g g'/\
   ∃cs,dA ((s.bG v.shared).env w g' β) t cs x/\gI t.agg cs y:=by
 obtain⟨g',h1,h2,h3,h4⟩:=gh v.shared h;obtain⟨cs,hV,hO⟩:=hv.fA (Eb ht);exact⟨g',h1,h2,h3,cs,y5 rfl h.bT h2 v t x cs hV ht h4,by rw[<-aeU ht];exact hO⟩
theorem abq{α:Type}{R:List Value->α->Prop}{f:α->List Value->Option (List Value)}(hf:∀x cs r,f x cs=av r->∃c,cs=c++r/\R c x):
  ∀(l:List α) (cs r:List Value),aGz f l cs=av r->∃c,cs=c++r/\bI R c l
 |[],cs,r,h=>by simp only[aGz,aA]at h;exact⟨[],by simp[h],rfl⟩
 |x::xs,cs,r,h=>by
  simp only[aGz]at h;cases hx:f x cs with
  |none=>rw[hx]at h;cases h
  |some r1=>
   rw[hx]at h;obtain⟨c1,e1,h1⟩:=hf x cs r1 hx;obtain⟨c2,e2,h2⟩:=abq hf xs r1 r h;exact⟨c1++c2,by rw[e1,e2,aI],c1,c2,rfl,h1,h2⟩
theorem GW(E:Env):∀(t:Ty) (x:t.den) (cs r:List Value),Ar t x cs=av r->∃c,cs=c++r/\dA E t c x
 | .int k,x,cs,r,h=>by
  cases cs with
  |nil=>simp[Ar]at h
  |cons v r'=>
   cases v <;> simp only[Ar]at h <;> try (cases h;done)
   rename_i k' n;split at h
   ·rename_i h1 h2;simp at h1 h2 h;subst h1 h2 h;exact⟨[.int k n],rfl,by simp[dA]⟩
   ·cases h
 | .bool,x,cs,r,h=>by
  cases cs with
  |nil=>simp[Ar]at h
  |cons v r'=>
   cases v <;> simp only[Ar]at h <;> try (cases h;done)
   rename_i b;split at h
   ·rename_i h1;simp at h1 h;subst h1 h;exact⟨[.bool b],rfl,by simp[dA]⟩
   ·cases h
 | .str,x,cs,r,h=>by
  cases cs with
  |nil=>simp[Ar]at h
  |cons v r'=>
   cases v <;> simp only[Ar]at h <;> try (cases h;done)
   rename_i b;split at h
   ·rename_i h1;simp at h1 h;subst h1 h;exact⟨[.string b],rfl,by simp[dA]⟩
   ·cases h
 | .slice t,x,cs,r,h=>by
  cases x with
  |cons _ _=>simp[Ar]at h
  |nil=>
   cases cs with
   |nil=>simp[Ar]at h
   |cons v r'=>
    unfold Ar at h;split at h <;> try (cases h;done)
    all_goals simp_all
    exact⟨[.slice aD 0 0],rfl,by simp only[dA];exact⟨aD,0,[],rfl,by simp,by simp,λi v hh=>by simp at hh,rfl⟩⟩
 | .iT t,x,cs,r,h=>by
  cases x with
  |some _=>simp[Ar]at h
  |none=>
   cases cs with
   |nil=>simp[Ar]at h
   |cons v r'=>
    unfold Ar at h;split at h <;> try (cases h;done)
    all_goals simp_all
    exact⟨[.slice aD 0 0],rfl,by simp[dA]⟩
 | .vC t,x,cs,r,h=>by
  cases x with
  |some _=>simp[Ar]at h
  |none=>
   cases cs with
   |nil=>simp[Ar]at h
   |cons v r'=>
    unfold Ar at h;split at h <;> try (cases h;done)
    all_goals simp_all
    exact⟨[.pointer aD],rfl,by simp[dA]⟩
 | .unit,x,cs,r,h=>by simp only[Ar,aA]at h;exact⟨[],by simp[h],by simp[dA]⟩
 | .pair a b,x,cs,r,h=>by
  simp only[Ar]at h;cases hx:Ar a x.1 cs with
  |none=>rw[hx]at h;cases h
  |some r1=>
   rw[hx]at h;obtain⟨c1,e1,h1⟩:=GW E a x.1 cs r1 hx;obtain⟨c2,e2,h2⟩:=GW E b x.2 r1 r h;exact⟨c1++c2,by rw[e1,e2,aI],by simp only[dA];exact⟨c1,c2,rfl,h1,h2⟩⟩
 | .arr n t,x,cs,r,h=>by
  simp only[Ar]at h;split at h
  ·rename_i h1;obtain⟨c,e,hc⟩:=abq (λx cs r hh=>GW E t x cs r hh) _ _ _ h;exact⟨c,e,by simp only[dA];exact⟨by simpa using h1,hc⟩⟩
  ·cases h
theorem atD(E:Env):∀(a:aC) (cs r:List Value),YS a cs=av r->∃c,cs=c++r/\V E a c:=by
 intro a
 induction a with
 |d t x=>
  intro cs r h;simp only[YS]at h;obtain⟨c,e,hc⟩:=GW E t x cs r h;exact⟨c,e,by simpa only[V]using hc⟩
 |pr a b iha ihb=>
  intro cs r h;simp only[YS]at h;cases hx:YS a cs with
  |none=>rw[hx]at h;cases h
  |some r1=>
   rw[hx]at h;obtain⟨c1,e1,h1⟩:=iha cs r1 hx;obtain⟨c2,e2,h2⟩:=ihb r1 r h;exact⟨c1++c2,by rw[e1,e2,aI],by simp only[V];exact⟨c1,c2,rfl,h1,h2⟩⟩
 |dy=>intro cs r h;unfold YS at h;split at h <;> simp_all <;> exact⟨[.slice aD 0 0],rfl,by simp[V]⟩
 |sq=>intro cs r h;unfold YS at h;split at h <;> simp_all <;> exact⟨[.pointer aD],rfl,by simp[V]⟩
 |yP=>intro cs r h;unfold YS at h;split at h <;> simp_all <;> exact⟨[.nilFunc],rfl,by simp[V]⟩
 |EB=>intro cs r h;unfold YS at h;split at h <;> simp_all <;> exact⟨[.map aD],rfl,by simp[V]⟩
 |_=>intro cs r h;simp[YS]at h
theorem xz{P:aT}{T:TypeId}{z:aC}(h:am0 P T z=aZ)(E:Env):
  ∃i zv,P.info? T=av i/\i.zero=av zv/\V E z zv.cells.toList/\gI z.agg zv.cells.toList zv:=by
 unfold am0 at h;split at h <;> try (cases h;done)
 rename_i i hi;split at h <;> try (cases h;done)
 rename_i zv hz;simp only[au,dK]at h;obtain⟨h1,h2⟩:=h;split at h1 <;> try (cases h1;done)
 rename_i he;obtain⟨c,e,hV⟩:=atD E z _ _ he;rw[bm]at e;rw[<-e]at hV;refine⟨i,zv,hi,hz,hV,?_⟩;cases ao5:z.agg with
 |true=>
  rw[ao5]at h2;cases zv <;> simp[uf]at h2;simp[gI,Value.cells]
 |false=>
  rw[ao5]at h2;cases zv <;> first | (simp[uf]at h2;done) | simp[gI,Value.cells]
end Go.Ab
namespace Go.Ab
def Fr(r:Option Nat):Fence:= {Fence.wide with round:=r}
def gr(P:aT)(o:Oper)(a:Act)(w:cd)(K:Act->cd->Prop):Prop:=(∃x w',(execOp a.eval o).run P w= .ok (.value x) w'/\K (a.put o.dst x) w')\/(∃w',(execOp a.eval o).run P w= .ok .skip w'/\K (a.put o.dst undef) w')\/(∃f args w',(execOp a.eval o).run P w= .ok (.enter f args) w'/\Calls P f args w' λe w''=>∃x,e= .returned x/\K (a.put o.dst x) w'')\/(∃l f tmps as b w',(execOp a.eval o).run P w= .ok (.round l f tmps as b) w'/\∀r n,RoundIn (Fr r) n P l f tmps as b w' λe w''=>∃x,e= .returned x/\K (a.put o.dst x) w'')
theorem gr.plain{P:aT}{o:Oper}{a:Act}{w:cd}{K:Act->cd->Prop}(h:gr P o a w K)(c:Call):o.op≠ .defer c:=λho=>by
 have hd:∀x w',(execOp a.eval o).run P w= .ok x w'->∃d,x= .defer d:=λx w' hx=>by
  simp only[execOp,ho,cC]at hx;cases hr:(resolve a.eval c o.type).run P w with
  |ok d w1=>
   rw[hr]at hx;simp only[bP,ez,Result.ok.injEq]at hx;exact⟨d,hx.1.symm⟩
  |halt _ _=>rw[hr]at hx;simp[Result.andThen]at hx
 rcases h with⟨x,w',hr,_⟩ | ⟨w',hr,_⟩ | ⟨f,args,w',hr,_⟩ | ⟨l,f,tmps,as,b,w',hr,_⟩
 ·obtain⟨d,e⟩:=hd _ _ hr;cases e
 ·obtain⟨d,e⟩:=hd _ _ hr;cases e
 ·obtain⟨d,e⟩:=hd _ _ hr;cases e
 ·obtain⟨d,e⟩:=hd _ _ hr;cases e
theorem gr.wpIn{r:Option Nat}{n:Nat}{P:aT}{o:Oper}{a:Act}{w:cd}{K:Act->cd->Prop}{Q:Exit->Act->cd->Prop}(h:gr P o a w K):o.wpIn (Fr r) n P a w K Q:=by
 have hp:=h.plain;refine⟨λ_ _=>trivial,?_⟩;rw[Oper.semAt_eq _ _ _ hp];rcases h with⟨x,w',hr,hk⟩ | ⟨w',hr,hk⟩ | ⟨f,args,w',hr,hk⟩ | ⟨l,f,tmps,as,b,w',hr,hk⟩;rotate_left 3
 ·rw[hr,Oper.uponIn_round];refine⟨λh=>(by cases h),(hk r (n - 1)).mono λe w'' ⟨x,he,hx⟩=> ?_⟩;subst he;exact hx
 ·rw[hr,Oper.uponIn_value];exact hk
 ·rw[hr,Oper.uponIn_skip];exact hk
 ·rw[hr,Oper.uponIn_enter];refine⟨λh=>(by cases h),?_⟩;have h1:CallsIn (Fr r) (n - 1) P f args w' _:=callsIn_wide.2 hk;refine h1.mono λe w'' ⟨x,he,hx⟩=> ?_
  subst he;exact hx
theorem gr.mono{P:aT}{o:Oper}{a:Act}{w:cd}{K K':Act->cd->Prop}(h:gr P o a w K)(hk:∀a w,K a w->K' a w):gr P o a w K':=by
 rcases h with⟨x,w',hr,h⟩ | ⟨w',hr,h⟩ | ⟨f,args,w',hr,h⟩ | ⟨l,f,tmps,as,b,w',hr,h⟩
 ·exact .inl ⟨x,w',hr,hk _ _ h⟩
 ·exact .inr (.inl ⟨w',hr,hk _ _ h⟩)
 ·exact .inr (.inr (.inl ⟨f,args,w',hr,h.mono λe w'' ⟨x,he,hx⟩=>⟨x,he,hk _ _ hx⟩⟩))
 ·exact .inr (.inr (.inr ⟨l,f,tmps,as,b,w',hr,λr n=>(h r n).mono λe w'' ⟨x,he,hx⟩=>⟨x,he,hk _ _ hx⟩⟩))
section
variable {P:aT} {C:Ctx} {g:Nat->np} {β:Id->Option Pl} {s:AS} {a:Act} {w:cd} {o:Oper}
theorem Inv.value(h:Inv C g β s a w){v:aC}{x:Value}(hv:VS (s.env w g β) v x)(hr:(execOp a.eval o).run P w= .ok (.value x) w):gr P o a w (jf C (s.put o.dst v)):= .inl ⟨x,w,hr,g,β,h.put o.dst hv⟩
theorem eK{f:Sem Value}{x:Value}{w':cd}(he:execOp a.eval o=(do pure (.value (<-f))))(hf:f.run P w= .ok x w'):(execOp a.eval o).run P w= .ok (.value x) w':=by rw[he,cC,hf];rfl
theorem ahP{f:Sem Unit}{w':cd}(he:execOp a.eval o=(do f;pure .skip))(hf:f.run P w= .ok () w'):(execOp a.eval o).run P w= .ok .skip w':=by rw[he,cC,hf];rfl
theorem w6{E:Env}{k:lC}{n:Int}{y:Value}(h:VS E (.d (.int k) n) y):y= .int k n:=by obtain⟨cs,hv,ho⟩:=h;simp only[V,dA]at hv;have ho':cs=[y]:=ho;rw[hv]at ho';simpa using ho'.symm
theorem Zx{E:Env}{b:Bool}{y:Value}(h:VS E (.d .bool b) y):y= .bool b:=by obtain⟨cs,hv,ho⟩:=h;simp only[V,dA]at hv;have ho':cs=[y]:=ho;rw[hv]at ho';simpa using ho'.symm
theorem Ll{E:Env}{b:ByteArray}{y:Value}(h:VS E (.d .str b) y):y= .string b:=by obtain⟨cs,hv,ho⟩:=h;simp only[V,dA]at hv;have ho':cs=[y]:=ho;rw[hv]at ho';simpa using ho'.symm
theorem mM{E:Env}(k:lC)(n:Int):VS E (.d (.int k) n) (.int k n):=⟨[.int k n],by simp[V,dA],rfl⟩
theorem xC{E:Env}(b:Bool):VS E (.d .bool b) (.bool b):=⟨[.bool b],by simp[V,dA],rfl⟩
theorem ajv{E:Env}(b:ByteArray):VS E (.d .str b) (.string b):=⟨[.string b],by simp[V,dA],rfl⟩
theorem axM{T:TypeId}{d:TypeDesc}(h:P.underlying T=av d):∃i,P.info? T=av i:=by
 unfold Program.underlying at h;split at h
 ·rename_i h';exact⟨_,h'⟩
 ·rename_i i _ h';exact⟨_,h'⟩
 ·cases h
theorem run_sizeOf{T:TypeId}{i:TypeInfo}(h:P.info? T=av i)(w:cd):(sizeOf T).run P w= .ok i.size w:=by simp[sizeOf,typeInfo,h]
theorem oC{T:TypeId}{i:TypeInfo}(h:P.info? T=av i):P.cellsOf T=i.size:=by simp[Program.cellsOf,h]
theorem ua{T:TypeId}{v:aC}(h:fits P T v=aZ):v.fA=aZ/\∃i,P.info? T=av i/\i.size=v.size/\∀w,(isAgg T).run P w= .ok v.agg w:=by
 unfold fits at h;simp only[au,dK]at h;obtain⟨⟨h1,h2⟩,h3⟩:=h;cases hu:P.underlying T with
 |none=>rw[hu]at h3;cases h3
 |some d=>
  obtain⟨i,hi⟩:=axM hu;refine⟨h1,i,hi,by rw[oC hi]at h2;exact h2,λw=> ?_⟩;rw[hu]at h3;unfold isAgg;rw[cC,run_underlying hu w];cases d <;> simp at h3 <;> simp[h3]
theorem Cz{T:TypeId}{v:aC}(hf:fits P T v=aZ){b off:Nat}{cs:List Value}(hl:cs.length=v.size)(hc:∀j x,cs[j]? =av x->w.cell? ⟨b,off+j,aD⟩=av x):
  ∃y,(loadVar T ⟨b,off,aD⟩).run P w= .ok y w/\gI v.agg cs y:=by
 obtain⟨_,i,hi,hs,ao5⟩:=ua hf;unfold loadVar;rw[cC,ao5 w];simp only[bP];have Fz:∀j x,cs[j]? =av x->w.cell? ((⟨b,off,aD⟩:Addr).add j)=av x:=λj x hj=>by rw[fU];exact hc j x hj
 cases ha:v.agg with
 |true=>
  refine⟨.agg cs.toArray,?_,rfl⟩;simp only[bM,cC,run_sizeOf hi,bP,hs,<-hl,run_loadCells_list w _ cs Fz];rfl
 |false=>
  have h1:v.size=1:=aC.aru ha;obtain⟨y,rfl⟩:∃y,cs=[y]:=by
   match cs,hl with
   |[y],_=>exact⟨y,rfl⟩
   |[],hh=>simp[h1]at hh
   |_::_::_,hh=>simp[h1]at hh
  refine⟨y,?_,rfl⟩;have:=hc 0 y rfl;rw[cK]at this;simp[this]
theorem IF{T:TypeId}{v:aC}{E:Env}(hf:fits P T v=aZ){cs:List Value}{y:Value}(hV:V E v cs)(ho:gI v.agg cs y){b off:Nat}{cur:Array Value}{e:TypeId}
  (hh:w.heap[b]? =av (.cells cur e (0,0))) (hle:off+cs.length<=cur.size):
  (storeVar T ⟨b,off,aD⟩ y).run P w= .ok () (w.setRow b (dO cur.toList off cs).toArray):=by
 obtain⟨_,i,hi,hs,_⟩:=ua hf;have ao8:y.cells=cs.toArray:=ho.cells hV.one;have hl:=hV.size;have nA:=run_storeCells_at P b off e cs 0 cur w hh (by simpa using hle) hV.one;simp only[cK]at nA;unfold storeVar;simp only[ao8,cC,run_sizeOf hi,bP,iZ,hl,hs,ne_eq,not_true_eq_false,bA];simpa[dO]using nA
theorem sC(w:cd)(ob:Obj){b:Nat}(h:b < w.heap.size):(w.alloc ob).heap[b]? =w.heap[b]? :=by
 show(w.heap.push ob)[b]? =w.heap[b]?
 rw[Array.getElem?_push,if_neg (Nat.ne_of_lt h)]
theorem vc(w:cd)(ob:Obj):(w.alloc ob).heap[w.heap.size]? =av ob:=by
 show(w.heap.push ob)[w.heap.size]? =av ob
 simp
theorem Trans.alloc(w:cd)(g:Nat->np)(ob:Obj)(l:np):Trans w (w.alloc ob) g (oS g w.heap.size l):=by
 refine⟨rfl,rfl,⟨rfl,ay _⟩,by simp,λb hb=> ?_⟩;rw[fZ _ _ _ ak,sC w ob hb];cases g b with
 |free=>exact⟨rfl,rfl⟩
 |own o k=>cases o with
  |eY=>exact⟨rfl,rfl⟩
  |id i=>exact⟨.inr ⟨i,k,rfl,ay _⟩,λoff v _ hv=>by rw[World.cell?_alloc_lt w ob _ hb];exact hv⟩
theorem Trans.drew(w:cd)(g:Nat->np):Trans w w.drew g g:=Trans.refl w g |> λh=>⟨h.os,h.tape,⟨h.output.1,pQ _⟩,h.size,h.UP⟩
theorem jE.same{w':cd}{g':Nat->np}(h:jE (s.env w g β))(he:db (s.env w g β) (s.env w' g' β))(hb:∀i ver fr c pl,s.cq i=av (.obj ver fr c)->β i=av pl->w'.heap[pl.b]? =w.heap[pl.b]? /\g' pl.b=g pl.b):jE (s.env w' g' β):=λi ver fr c hi=>(h i ver fr c hi).mono he rfl (λpl hp=>hb i ver fr c pl hi hp) λq vq k v l hq _=>⟨⟨k,v,l,hq⟩,λpl hp=>hb q vq aZ _ pl hq hp⟩
theorem db.same{w':cd}{g':Nat->np}(ht:Trans w w' g g'):db (s.env w g β) (s.env w' g' β):=⟨Trans.mem ht,λ_ _ h=>h,λ_ _ _ h=>⟨h,rfl⟩⟩
theorem Inv.LP(h:Inv C g β s a w)(ob:Obj):Inv C (oS g w.heap.size .free) β s a (w.alloc ob):=by have ht:=Trans.alloc w g ob .free;have he:db (s.env w g β) (s.env (w.alloc ob) (oS g w.heap.size .free) β):=db.same ht;refine h.step rfl ht he (jE.same h.bT he λi ver fr c pl hi hp=> ?_);have hl:=((h.bT i ver fr c hi).label (pl:=pl) hp).1;have hl':pl.b < w.heap.size:=hl;exact⟨sC w ob hl',fZ _ _ _ ak⟩
theorem Inv.drew(h:Inv C g β s a w):Inv C g β s a w.drew:=by have ht:=Trans.drew w g;have he:db (s.env w g β) (s.env w.drew g β):=db.same ht;exact h.step rfl ht he (jE.same h.bT he λ_ _ _ _ _ _ _=>⟨rfl,rfl⟩)
theorem lA{q:Nat}(h:s.eS q=aZ):(∀j,s.cq (.new q j)=aD)/\q < s.news.length:=by
 unfold AS.eS at h;split at h
 ·rename_i hn;refine⟨λj=> ?_,(dX.1 hn).1⟩;simp[AS.cq,aJ,hn]
 ·cases h
theorem Au{q:Nat}(hq:q < s.news.length)(es:List dW)(j:Nat):(s.born q es).cq (.new q j)=es[j]? :=by simp[AS.cq,AS.born,aJ,hq]
theorem jP{q:Nat}(es:List dW){id:Id}(h:∀j,id≠ .new q j):(s.born q es).cq id=s.cq id:=by
 cases id with
 |bt k=>rfl
 |new i j=>
  have:i≠q:=λe=>h j (by rw[e])
  simp only[AS.cq,AS.born,aJ];rw[eT (Ne.symm this)]
def LM(β:Id->Option Pl)(id:Id)(p:Option Pl):Id->Option Pl:=λi=>if i=id then p else β i
@[simp] theorem kR(β:Id->Option Pl)(id:Id)(p:Option Pl):LM β id p id=p:=by simp[LM]
theorem CL(β:Id->Option Pl)(id:Id)(p:Option Pl){i:Id}(h:i≠id):LM β id p i=β i:=by simp[LM,h]
theorem Inv.UQ(h:Inv C g β s a w){q:Nat}(hq:s.eS q=aZ){w':cd}{g':Nat->np}{c:aC}{p:Option Pl}(ht:Trans w w' g g')
  (hb:∀b,b < w.heap.size->w'.heap[b]? =w.heap[b]? /\g' b=g b)
  (ho:db (s.env w g β) ((s.born q [.obj 0 aQ c]).env w' g' (LM β (.new q 0) p))->yz ((s.born q [.obj 0 aQ c]).env w' g' (LM β (.new q 0) p)) (.new q 0) aQ c):
  Inv C g' (LM β (.new q 0) p) (s.born q [.obj 0 aQ c]) a w'/\db (s.env w g β) ((s.born q [.obj 0 aQ c]).env w' g' (LM β (.new q 0) p)):=by
 obtain⟨hv,hl⟩:=lA hq;have il:∀id,s.cq id≠aD->∀j,id≠ .new q j:=λid dr j e=>dr (by rw[e];exact hv j)
 have he:db (s.env w g β) ((s.born q [.obj 0 aQ c]).env w' g' (LM β (.new q 0) p)):=by
  refine⟨Trans.mem ht,λid ver ao7=> ?_,λid ver ao7 hc=> ?_⟩
  ·have dr:=il id ao7.1;have e:=jP (s:=s) [.obj 0 aQ c] dr;exact⟨by show(s.born q _).cq id≠aD;rw[e];exact ao7.1,λv fr c' hh=>ao7.2 v fr c' (e.symm.trans hh)⟩
  ·have dr:=il id ao7.1;have e:=jP (s:=s) [.obj 0 aQ c] dr;obtain⟨fr,c',hc⟩:=hc;exact⟨⟨fr,c',e.symm.trans hc⟩,CL _ _ _ (dr 0)⟩
 refine⟨h.step rfl ht he λid ver fr c' dr=> ?_,he⟩;have hid':(s.born q [.obj 0 aQ c]).cq id=av (.obj ver fr c'):=dr;by_cases hi:∃j,id= .new q j
 ·obtain⟨j,rfl⟩:=hi;rw[Au hl]at hid';cases j with
  |zero=>
   simp only[gF,aA,dW.obj.injEq]at hid';obtain⟨rfl,rfl,rfl⟩:=hid';exact ho he
  |succ j=>simp at hid'
 ·have hi':∀j,id≠ .new q j:=λj e=>hi ⟨j,e⟩
  rw[jP _ hi']at hid';refine(h.bT id ver fr c' hid').mono he (CL _ _ _ (hi' 0)) (λpl hp=> ?_) λq2 vq k v l Vi _=> ?_
  ·exact hb pl.b ((h.bT id ver fr c' hid').label (pl:=pl) hp).1
  ·have aWl:s.cq q2=av (.obj vq aZ (.mp k v l)):=Vi;refine⟨⟨k,v,l,by show(s.born q _).cq q2=_;rw[jP _ (il q2 (by rw[aWl];simp))];exact aWl⟩,λpl hp=>hb pl.b ((h.bT q2 vq aZ _ aWl).label (pl:=pl) hp).1⟩
theorem ru{q:Nat}(hq:s.eS q=aZ)(c:aC)(w':cd)(g':Nat->np)(β':Id->Option Pl):((s.born q [.obj 0 aQ c]).env w' g' β').Ij (.new q 0) 0:=by have e:=Au (s:=s) (lA hq).2 [.obj 0 aQ c] 0;refine⟨by show(s.born q [.obj 0 aQ c]).cq (.new q 0)≠aD;rw[e];simp,λv fr c' _=>aP _⟩
theorem Inv.ax4(h:Inv C g β s a w){q:Nat}(hq:s.eS q=aZ){v:aC}{cs:List Value}{e:TypeId}(hk:∀pl n,v.Ju pl n e)(hN:∀n,v.zd n=n)(hv:V (s.env w g β) v.strip cs):
  ∃g' β',Inv C g' β' (s.born q [.obj 0 aQ v]) a (w.alloc (.cells cs.toArray e))/\
   VS ((s.born q [.obj 0 aQ v]).env (w.alloc (.cells cs.toArray e)) g' β') (.ptr (.new q 0) 0 [] 0) (.pointer (av ⟨w.heap.size,0,aD⟩)):=by
 have ht:=Trans.alloc w g (.cells cs.toArray e) (.own (.id (.new q 0)) 0);obtain⟨h1,h2⟩:=h.UQ hq (c:=v) (p:=av ⟨w.heap.size,0⟩) ht (λb hb=>⟨sC w _ hb,fZ _ _ _ ak⟩) (λhe=>
  UA.obj ⟨⟨w.heap.size,0⟩,cs.toArray,e,kR _ _ _,vc w _,gm _ _ _,hk _ _,by rw[hN,show cs.toArray.toList.take cs.toArray.size=cs by simp];exact hv.mono he⟩)
 refine⟨_,_,h1,?_⟩;refine⟨[.pointer (av ⟨w.heap.size,0,aD⟩)],?_,rfl⟩;simp only[V];exact⟨_,rfl,ru hq _ _ _ _,λ_=>⟨_,kR _ _ _,rfl⟩⟩
theorem Inv.aRL(h:Inv C g β s a w){q:Nat}(hq:s.eS q=aZ){v:aC}{cs:List Value}(hv:V (s.env w g β) v cs)(e:TypeId):
  ∃g' β',Inv C g' β' (s.born q [.obj 0 aQ v]) a (w.alloc (.cells cs.toArray e))/\
   VS ((s.born q [.obj 0 aQ v]).env (w.alloc (.cells cs.toArray e)) g' β') (.ptr (.new q 0) 0 [] 0) (.pointer (av ⟨w.heap.size,0,aD⟩)):=
 h.ax4 hq (λpl n=>UT hv.Cj pl n e) (λn=>aaI hv.Cj n) (by rw[Wu hv.Cj];exact hv)
theorem aE9(P:aT)(T:TypeId){z:aC}{E:Env}{cs:List Value}(hv:V E z cs):(∀pl n,(boxed P T z).Ju pl n T)/\(∀n,(boxed P T z).zd n=n)/\V E (boxed P T z).strip cs:=by
 unfold boxed;split
 ·exact⟨λ_ _=>rfl,λ_=>rfl,hv⟩
 ·exact⟨λpl n=>UT hv.Cj pl n T,λn=>aaI hv.Cj n,by rw[Wu hv.Cj];exact hv⟩
theorem Inv.aN1(h:Inv C g β s a w){t:Ty}{x:t.den}{cs:List Value}(hv:dA (s.env w g β) t cs x)(e:TypeId):
  ∃g',Inv C g' β s a (w.alloc (.cells cs.toArray e))/\db (s.env w g β) (s.env (w.alloc (.cells cs.toArray e)) g' β)/\
   VS (s.env (w.alloc (.cells cs.toArray e)) g' β) (.dV t x) (.pointer (av ⟨w.heap.size,0,aD⟩)):=by
 have ht:=Trans.alloc w g (.cells cs.toArray e) .free;have he:db (s.env w g β) (s.env (w.alloc (.cells cs.toArray e)) (oS g w.heap.size .free) β):=db.same ht;refine⟨_,h.LP _,he,[.pointer (av ⟨w.heap.size,0,aD⟩)],?_,rfl⟩;simp only[V];refine⟨w.heap.size,0,cs,rfl,λi v hi=>⟨_,_,rfl,?_,?_⟩,hv.mono he.mem⟩
 ·show(w.alloc (.cells cs.toArray e)).cell? ⟨w.heap.size,0+i,aD⟩=av v;rw[World.cell?_alloc_new,aR];simpa using hi
 ·show wK (oS g w.heap.size .free) w.heap.size (0+i);unfold wK;rw[gm];trivial
theorem aeh(T:TypeId)(y:Value)(w:cd):(newVar T y).run P w= .ok ⟨w.heap.size,0,aD⟩ (w.alloc (.cells y.cells T)):=by simp[newVar,newRow]
theorem asB(h:Inv C g β s a w){T:TypeId}(ho:o.op= .alloc T){z:aC}{q:Nat}(hq:s.eS q=aZ)(hz:am0 P T z=aZ):
  gr P o a w (jf C ((s.born q [.obj 0 aQ (boxed P T z)]).put o.dst (.ptr (.new q 0) 0 [] 0))):=by
 obtain⟨i,zv,hi,aso,hV,hO⟩:=xz hz (s.env w g β);obtain⟨hk,hN,hV⟩:=aE9 P T hV;obtain⟨g',β',h1,h2⟩:=h.ax4 hq hk hN hV;refine .inl ⟨.pointer (av ⟨w.heap.size,0,aD⟩),w.alloc (.cells zv.cells T),?_,g',β',?_⟩
 ·refine eK (f:=Instr.alloc T aZ (.tuple #[])) (by simp only[execOp,ho]) ?_
  simp[Instr.alloc,zeroValue,typeInfo,hi,aso,aeh]
 ·have:=h1.put o.dst h2;simpa using this
theorem VS.aUi{E:Env}{t:Ty}{x:t.den}{y:Value}(h:VS E (.dV t x) y)(dt:Bool):VS E (aQt dt t x) y:=by
 cases dt with
 |false=>exact h
 |true=>
  obtain⟨cs,hv,ho⟩:=h;simp only[V]at hv;refine⟨cs,?_,ho⟩;simp only[aQt,V,dA];simpa using hv
theorem ah0{E:Env}{t:Ty}{y:Value}(h:VS E (.d (.vC t) aD) y):y= .pointer aD:=by obtain⟨cs,hv,ho⟩:=h;simp only[V,dA]at hv;have ho':cs=[y]:=ho;have e:=hv.1 trivial;rw[e]at ho';simpa using ho'.symm
theorem R1{E:Env}{t:Ty}{x:t.den}{y:Value}(h:VS E (.d (.vC t) (av x)) y):VS E (.dV t x) y:=by obtain⟨cs,hv,ho⟩:=h;simp only[V,dA]at hv;refine⟨cs,?_,ho⟩;simp only[V];simpa using hv
theorem aE8(h:Inv C g β s a w){T:TypeId}{x:bU}{obj dt:Bool}(ho:o.op= .box T x){s':AS}(he:(anL P s obj dt o.dst T (s.ev x)).eval=av s'):gr P o a w (jf C s'):=by
 unfold anL at he;cases hd:o.dst with
 |none=>rw[hd]at he;simp only[aw]at he
 |some q=>
  rw[hd]at he;have ao9:=h.ev x;have im:∀cs:List Value,(a.eval x).cells=cs.toArray->(execOp a.eval o).run P w= .ok (.value (.pointer (av ⟨w.heap.size,0,aD⟩))) (w.alloc (.cells cs.toArray T)):=by
   intro cs ao8;refine eK (f:=Instr.box T (a.eval x)) (by simp only[execOp,ho]) ?_
   simp[Instr.box,aeh,ao8]
  cases obj with
  |true=>
   obtain⟨hg,jR⟩:=aH.1 he;obtain rfl:=az.1 jR;simp only[au]at hg;obtain⟨hq,hf⟩:=hg;obtain⟨hc,_⟩:=ua hf;obtain⟨cs,hV,hO⟩:=ao9.fA hc;obtain⟨g',β',h1,h2⟩:=h.aRL hq hV T;refine .inl ⟨_,_,im cs (hO.cells hV.one),g',β',?_⟩;rw[hd];exact h1.put (av q) h2
  |false=>
   simp only at he;cases ht:ar0 P depth T with
   |none=>rw[ht]at he;simp only[aw]at he
   |some t=>
    rw[ht]at he;obtain⟨_,he⟩:=aH.1 he;obtain⟨y,h1,h2⟩:=ax.1 he;obtain rfl:=az.1 h2;obtain⟨g1,i1,e1,t1,cs,hR,hO⟩:=CH h ao9 h1;obtain⟨g2,i2,e2,hv⟩:=i1.aN1 hR T;refine .inl ⟨_,_,im cs (hO.cells hR.one),g2,β,?_⟩;rw[hd];exact i2.put (av q) (hv.aUi dt)
theorem yi{E:Env}{t:Ty}{x:t.den}{y:Value}(h:VS E (.dV t x) y):∃b off vs,y= .pointer (av ⟨b,off,aD⟩)/\Ib E (av ⟨b,off,aD⟩) vs/\dA E t vs x:=by obtain⟨cs,hv,ho⟩:=h;simp only[V]at hv;obtain⟨b,off,vs,e,hr,hx⟩:=hv;have ho':cs=[y]:=ho;rw[e]at ho';exact⟨b,off,vs,by simpa using ho'.symm,hr,hx⟩
theorem xk{E:Env}{id:Id}{ver n:Nat}{p:List MK}{y:Value}(h:VS E (.ptr id ver p n) y):
  ∃a,y= .pointer (av a)/\E.Ij id ver/\(E.cur id ver->∃pl,E.β id=av pl/\a=⟨pl.b,n,aD⟩):=by
 obtain⟨cs,hv,ho⟩:=h;simp only[V]at hv;obtain⟨a,e,hb,hc⟩:=hv;have ho':cs=[y]:=ho;rw[e]at ho';exact⟨a,by simpa using ho'.symm,hb,hc⟩
theorem tJ{E:Env}{id:Id}{ver c i len:Nat}{p:List MK}{y:Value}(h:VS E (.bE id ver p c i len) y):
  ∃a cap,y= .slice a len cap/\len<=cap/\(0 < len->a.isSome=aZ)/\E.Ij id ver/\
   (E.cur id ver->match E.β id with
    |some pl=>(0 < len\/i=0->a=av ⟨pl.b,c,aD⟩)/\(p=[]->i=0->cap=pl.cap)
    |none=>a=aD/\len=0/\cap=0):=by
 obtain⟨cs,hv,ho⟩:=h;simp only[V]at hv;obtain⟨a,cap,e,rest⟩:=hv;have ho':cs=[y]:=ho;rw[e]at ho';exact⟨a,cap,by simpa using ho'.symm,rest⟩
theorem vY{E:Env}{t:Ty}{l:List t.den}{y:Value}(h:VS E (.d (.slice t) l) y):
  ∃a cap vs,y= .slice a l.length cap/\l.length<=cap/\(0 < l.length->a.isSome=aZ)/\Ib E a vs/\bI (dA E t) vs l:=by
 obtain⟨cs,hv,ho⟩:=h;simp only[V,dA]at hv;obtain⟨a,cap,vs,e,rest⟩:=hv;have ho':cs=[y]:=ho;rw[e]at ho';exact⟨a,cap,vs,by simpa using ho'.symm,rest⟩
theorem mu{E:Env}{y:Value}(h:VS E .dy y):y= .slice aD 0 0:=by obtain⟨cs,hv,ho⟩:=h;simp only[V]at hv;have ho':cs=[y]:=ho;rw[hv]at ho';simpa using ho'.symm
theorem aBE{E:Env}{id:Id}{fr:Bool}{c:aC}(h:yz E id fr c){p:List MK}{n:Nat}{v:aC}(hl:(loc c.strip p).eval=av (n,v))(hf:v.fA=aZ):
  ∃pl cur e,E.β id=av pl/\E.w.heap[pl.b]? =av (.cells cur e (0,0))/\V E v ((cur.toList.drop n).take v.size)/\n+v.size<=cur.size:=by
 by_cases hn:c.jy=aQ
 ·obtain⟨pl,cur,e,hp,hh,hg,hk,hV⟩:=h.box hn;have hN:=Zy hk;generalize c.zd cur.size=N at hN hV;have hNl:(cur.toList.take N).length=N:=by rw[bB,c9];omega
  obtain⟨u,hu⟩:∃u,c.strip=u:=⟨_,rfl⟩;rw[hu]at hV hl;rcases uH p u (cur.toList.take N) n v (VO.of hV) hl with⟨rfl,rfl⟩ | ⟨h1,h2⟩
  ·have hs:=hV.size;rw[hNl]at hs;refine⟨pl,cur,e,hp,hh,?_,ak⟩;rw[aG,<-hs];exact hV
  ·rw[hNl]at h2;rw[u9,fp,eH ak]at h1;exact⟨pl,cur,e,hp,hh,h1,ak⟩
 ·cases c <;> first | (exact absurd rfl hn) | skip
  rotate_left
  ·have hl:(loc (.mp _ _ _) p).eval=_:=hl;obtain⟨_,rfl⟩:=ald hl;simp[aC.fA]at hf
  ·have hl:(loc (.uE _ _ _ _ _ _) p).eval=_:=hl;obtain⟨_,rfl⟩:=ZQ hl;simp[aC.fA]at hf
  ·have hl:(loc (.sS _ _ _) p).eval=_:=hl;obtain⟨_,rfl⟩:=ZR hl;simp[aC.fA]at hf
  rename_i e t l;obtain⟨hz,h⟩:=h;cases hp:E.β id with
  |none=>
   rw[hp]at h;have:l=[]:=h;subst this;obtain⟨_,rfl⟩:=acg hl;simp[aC.fA]at hf
  |some pl=>
   rw[hp]at h;obtain⟨cur,k,q1,q2,q3,q4,q5,q6,q7,q8⟩:=h;have hlen:=bI.length (λc x hx=>dA.size hx) q8;have uW:l.length*t.size<=cur.size:=by rw[q2];exact di _ q3
   rcases uH (E:=E) p (.vec e t l) _ n v q8 hl with⟨rfl,rfl⟩ | ⟨h1,h2⟩
   ·simp[aC.fA]at hf
   ·rw[hlen]at h2;rw[u9,fp,eH ak]at h1;exact⟨pl,cur,e,rfl,q1,h1,ak⟩
theorem aBA{E:Env}{v v':aC}(h:(aRN v).eval=av v'):(∀cs,V E v cs->V E v' cs)/\v'.agg=v.agg:=by
 unfold aRN at h;split at h
 ·rename_i t l;obtain⟨h1,h2⟩:=b8.1 h;obtain rfl:=az.1 h2;refine⟨λcs hv=> ?_,rfl⟩;simp only[V,dA]at hv ⊢;exact hv.1 (Option.isNone_iff_eq_none.1 h1)
 ·obtain rfl:=az.1 h;exact⟨λ_ h=>h,rfl⟩
theorem acf(h:Inv C g β s a w){T:TypeId}{x:aC}{y:Value}(hx:VS (s.env w g β) x y){v:aC}(he:(Sx P s T x).eval=av v):
  ∃ad z,y= .pointer (av ad)/\(loadVar T ad).run P w= .ok z w/\VS (s.env w g β) v z:=by
 unfold Sx at he;split at he
 ·rename_i id ver p n;cases mX:s.obj id with
  |none=>rw[mX]at he;simp only[aw]at he
  |some r=>
   obtain⟨v0,fr,c⟩:=r;rw[mX]at he;obtain⟨h1,h2⟩:=aH.1 he;obtain⟨⟨n',v'⟩,h3,h4⟩:=ax.1 h2;obtain⟨h5,h6⟩:=aH.1 h4;obtain⟨h7,h8⟩:=b8.1 h6;obtain⟨n1,n2⟩:=aBA (E:=s.env w g β) h8;simp only[bf]at h7;have aSQ:v0=ver:=by simpa using h1
   subst aSQ h7;have dh:=eU mX;obtain⟨ad,rfl,hb,hc⟩:=xk hx;obtain⟨pl,hp,rfl⟩:=hc ⟨fr,c,dh⟩;obtain⟨atX,_⟩:=ua h5;obtain⟨pl',cur,e,hp',hh,hV,hle⟩:=aBE (h.bT id v0 fr c dh) h3 atX;rw[hp]at hp';obtain rfl:pl=pl':=by simpa using hp'
   obtain⟨z,XA,Vo⟩:=Cz (P:=P) (w:=w) h5 (b:=pl.b) (off:=n') hV.size (λj x hj=>by
    rw[cell_of_row w pl.b (n'+j) cur e (0,0) hh];rw[dD]at hj;split at hj
    ·rw[gK]at hj;simpa using hj
    ·cases hj)
   exact⟨_,z,rfl,XA,VS.of (n1 _ hV) (by rw[n2];exact Vo)⟩
 ·rename_i t x';obtain⟨h1,h2⟩:=aH.1 he;obtain rfl:=az.1 h2;obtain⟨b,off,vs,rfl,hr,hR⟩:=yi hx;obtain⟨z,XA,Vo⟩:=Cz (P:=P) (w:=w) h1 (b:=b) (off:=off) hR.size (λj x hj=>by
   obtain⟨b',off',e,hh⟩:=hr j x hj;simp only[aA,Addr.mk.injEq,jw]at e;obtain⟨rfl,rfl⟩:=e;exact hh.1)
  exact⟨_,z,rfl,XA,VS.of (by simpa only[V]using hR) Vo⟩
 ·rename_i t x';obtain⟨u,e,he⟩:=yJ.1 he;subst e;have hx:=R1 hx;obtain⟨h1,h2⟩:=aH.1 he;obtain rfl:=az.1 h2;obtain⟨b,off,vs,rfl,hr,hR⟩:=yi hx;obtain⟨z,XA,Vo⟩:=Cz (P:=P) (w:=w) h1 (b:=b) (off:=off) hR.size (λj x hj=>by
   obtain⟨b',off',e,hh⟩:=hr j x hj;simp only[aA,Addr.mk.injEq,jw]at e;obtain⟨rfl,rfl⟩:=e;exact hh.1)
  exact⟨_,z,rfl,XA,VS.of (by simpa only[V]using hR) Vo⟩
 ·simp only[aw]at he
theorem aA9(h:Inv C g β s a w){T:TypeId}{x:bU}(ho:o.op= .load T x){v:aC}(he:(Sx P s T (s.ev x)).eval=av v):gr P o a w (jf C (s.put o.dst v)):=by obtain⟨ad,z,hy,hr,hv⟩:=acf h (h.ev x) he;refine h.value hv (eK (f:=Instr.loadAt T (a.eval x)) (by simp only[execOp,ho]) ?_);simp[Instr.loadAt,Instr.sureAddr,hy,hr]
theorem Trans.setRow(w:cd){b:Nat}{i:Id}(hg:g b= .own (.id i) 0)(cur:Array Value):Trans w (w.setRow b cur) g g:=by
 refine⟨by simp,by simp,by simp,by simp,λb' hb=> ?_⟩;by_cases he:b'=b
 ·subst he;rw[hg];exact⟨.inr ⟨i,0,rfl,ay _⟩,λ_ _ hh=>ak⟩
 ·rw[setRow_other w b b' cur he];cases YT:g b' with
  |free=>exact⟨rfl,rfl⟩
  |own o' k=>cases o' with
   |eY=>exact⟨rfl,rfl⟩
   |id i'=>exact⟨.inr ⟨i',k,rfl,ay _⟩,λoff v _ hv=>by rw[cell_setRow_other w b cur _ he];exact hv⟩
theorem Inv.apart(h:Inv C g β s a w){id:Id}{k:Nat}{b:Nat}(hg:g b= .own (.id id) k){i:Id}{ver:Nat}{fr:Bool}{c:aC}{pl:Pl}(hi:i≠id)(hs:s.cq i=av (.obj ver fr c))(hp:β i=av pl):pl.b≠b:=by
 intro hb;have hl:(∃k,g pl.b= .own (.id i) k)\/(fr=aZ/\g pl.b= .free):=((h.bT i ver fr c hs).label (pl:=pl) hp).2;rw[hb,hg]at hl;rcases hl with⟨k',hk⟩ | ⟨_,hk⟩
 ·simp only[np.own.injEq,Own.id.injEq]at hk;exact hi hk.1.symm
 ·cases hk
theorem arF(h:Inv C g β s a w){T:TypeId}{x v:aC}{y z:Value}(hx:VS (s.env w g β) x y)(hz:VS (s.env w g β) v z){s':AS}(he:(Lj P s T x v).eval=av s'):
  ∃ad w',y= .pointer (av ad)/\(storeVar T ad z).run P w= .ok () w'/\∃g' β',Inv C g' β' s' a w':=by
 unfold Lj at he;split at he
 ·rename_i id ver p n;cases mX:s.obj id with
  |none=>rw[mX]at he;simp only[aw]at he
  |some r=>
   obtain⟨v0,fr,c⟩:=r;rw[mX]at he;obtain⟨h1,h2⟩:=aH.1 he;obtain⟨⟨n',o'⟩,h3,h4⟩:=ax.1 h2;obtain⟨h5,h6⟩:=aH.1 h4;obtain⟨h7,h8⟩:=b8.1 h6;obtain⟨c',h9,aPy⟩:=ax.1 h8;obtain rfl:=az.1 aPy;simp only[bf]at h7;simp only[au,dK,cS]at h1;obtain⟨⟨aSQ,aQ6⟩,abN⟩:=h1;subst aSQ h7 aQ6;have dh:=eU mX;obtain⟨ad,rfl,hb,hc⟩:=xk hx;obtain⟨pl,hp,rfl⟩:=hc ⟨aQ,c,dh⟩;have hp:β id=av pl:=hp;obtain⟨atX,_⟩:=ua abN;obtain⟨cs,hV,hO⟩:=hz.fA atX;have hOb:=h.bT id v0 aQ c dh;obtain⟨hcel',_⟩:=ua h5;have aWD:c.jy=aQ\/c.jy=aZ:=by cases c.jy <;> simp
   rcases aWD with hn | hn
   ·obtain⟨pl',cur,e,hp',hh,hg,hk,hVc⟩:=hOb.box hn;have hp':β id=av pl':=hp';rw[hp]at hp';obtain rfl:pl=pl':=by simpa using hp'
    have hg:g pl.b= .own (.id id) 0:=hg;have hh:w.heap[pl.b]? =av (.cells cur e (0,0)):=hh
    have hN:=Zy hk;have hNl:(cur.toList.take (c.zd cur.size)).length=c.zd cur.size:=by rw[bB,c9];omega
    obtain⟨u1,u2,u3⟩:=r9 p c.strip (cur.toList.take (c.zd cur.size)) n' o' v c' cs (VO.of hVc) h3 hV h9;have u4:=u2.to (u3.vQ hVc.vQ);have uW:c'.size=c.strip.size:=by have e1:=u4.size;have e2:=hVc.size;rw[kG u1]at e1;omega
    rw[hNl]at u1;have aHk:(dO cur.toList n' cs).length=cur.toList.length:=kG (by have e1:cur.toList.length=cur.size:=c9;omega);have aWt:(dO cur.toList n' cs).take (c.zd cur.size)=dO (cur.toList.take (c.zd cur.size)) n' cs:=by
     conv=>lhs;rw[<-dH (c.zd cur.size) cur.toList]
     rw[D9 (by rw[hNl];exact u1),fP (by rw[kG (by rw[hNl];exact u1),hNl];exact ay _)];exact bk (by rw[kG (by rw[hNl];exact u1),hNl];exact ay _)
    have im:=IF (P:=P) (w:=w) abN hV hO (b:=pl.b) (off:=n') hh (by have e1:cur.toList.length=cur.size:=c9;have e2:cs.toArray.size=cs.length:=iZ;omega);have ht:=Trans.setRow w hg (dO cur.toList n' cs).toArray;have hle:db (s.env w g β) ((s.bq id (.obj v0 aQ (c.wrap c'))).env (w.setRow pl.b (dO cur.toList n' cs).toArray) g β):=db.bq dh (ay _) ht (λ_ _=>rfl) (λ_=>rfl);refine⟨_,_,rfl,im,g,β,h.step (dE _ _ _) ht hle (jE.bq h.bT (by rw[dh];simp) hle (λ_ _=>rfl) (λi ver fr c pl2 hi abO ZI=>⟨setRow_other w pl.b pl2.b _ (h.apart hg hi abO ZI),rfl⟩) ?_ (rC dh λk v1 l e=>by rw[e]at hn;simp[aC.jy]at hn))⟩;exact UA.obj ⟨pl,_,e,hp,setRow_heap w pl.b cur _ e (0,0) hh,hg,by rw[iZ,aHk,c9];exact O4 hk u4.Cj uW,by
     rw[Qy c u4.Cj,iZ,aHk,c9,US u4.Cj uW,show(dO cur.toList n' cs).toArray.toList=dO cur.toList n' cs from rfl,aWt];exact V.mono hle u4⟩
   ·cases c <;> first | (simp[aC.jy]at hn;done) | skip
    rotate_left
    ·have h3:(loc (.mp _ _ _) p).eval=_:=h3;obtain⟨_,rfl⟩:=ald h3;simp[aC.fA]at hcel'
    ·have h3:(loc (.uE _ _ _ _ _ _) p).eval=_:=h3;obtain⟨_,rfl⟩:=ZQ h3;simp[aC.fA]at hcel'
    ·have h3:(loc (.sS _ _ _) p).eval=_:=h3;obtain⟨_,rfl⟩:=ZR h3;simp[aC.fA]at hcel'
    rename_i e t l;obtain⟨asp,hOb⟩:=hOb;have hOb:(match β id with
     |none=>l=[]
     |some pl=>∃cur k,w.heap[pl.b]? =av (.cells cur e (0,0))/\cur.size=pl.cap*t.size/\l.length<=pl.cap/\pl.cap<=maxLen/\g pl.b= .own (.id id) k/\
       k<=l.length*t.size/\(aQ=aQ->k=0)/\bI (dA (s.env w g β) t) (cur.toList.take (l.length*t.size)) l):=hOb
    rw[hp]at hOb;obtain⟨cur,k,q1,q2,q3,q4,q5,q6,q7,q8⟩:=hOb;have hk:=q7 rfl;subst hk;have hlen:=bI.length (λc x hx=>dA.size hx) q8;have uW:l.length*t.size<=cur.size:=by rw[q2];exact di _ q3
    obtain⟨u1,u2,u3⟩:=r9 (E:=s.env w g β) p (.vec e t l) _ n' o' v c' cs q8 h3 hV h9;rw[hlen]at u1;have im:=IF (P:=P) (w:=w) abN hV hO (b:=pl.b) (off:=n') q1 ak;cases c' <;> first | (exact u3.elim) | skip
    rename_i e' t' l';obtain⟨rfl,rfl,hl'⟩:=u3;have ht:=Trans.setRow w q5 (dO cur.toList n' cs).toArray;have hle:db (s.env w g β) ((s.bq id (.obj v0 aQ (.vec e' t' l'))).env (w.setRow pl.b (dO cur.toList n' cs).toArray) g β):=db.bq dh (ay _) ht (λ_ _=>rfl) (λ_=>rfl);refine⟨_,_,rfl,im,g,β,h.step (dE _ _ _) ht hle (jE.bq h.bT (by rw[dh];simp) hle (λ_ _=>rfl) (λi ver fr c pl2 hi abO ZI=>⟨setRow_other w pl.b pl2.b _ (h.apart q5 hi abO ZI),rfl⟩) ?_ (rC dh λk v1 l e=>by cases e))⟩;refine⟨asp,?_⟩;show(match β id with
     |none=>l'=[]
     |some pl=>_)
    rw[hp];have aHk:(dO cur.toList n' cs).length=cur.toList.length:=kG (by simp;omega);refine⟨_,0,setRow_heap w pl.b cur _ e' (0,0) q1,by rw[iZ,aHk];simpa using q2,ak,q4,q5,ak,λ_=>rfl,?_⟩;have e2:(dO cur.toList n' cs).take (l'.length*t'.size)=dO (cur.toList.take (l.length*t'.size)) n' cs:=by
     rw[hl']
     conv=>lhs;rw[<-dH (l.length*t'.size) cur.toList]
     rw[D9 (by rw[hlen];exact u1),fP (by rw[kG (by rw[hlen];exact u1),hlen];exact ay _)];exact bk (by rw[kG (by rw[hlen];exact u1),hlen];exact ay _)
    rw[show(dO cur.toList n' cs).toArray.toList=dO cur.toList n' cs from rfl,e2];exact bI.mono (λ_ _ hx=>hx.mono hle.mem) u2
 ·simp only[aw]at he
theorem awd(h:Inv C g β s a w){T:TypeId}{x v:bU}(ho:o.op= .store T x v){s':AS}(he:(Lj P s T (s.ev x) (s.ev v)).eval=av s'):gr P o a w (jf C (s'.put o.dst .undef)):=by obtain⟨ad,w',hy,hr,g',β',hi⟩:=arF h (h.ev x) (h.ev v) he;refine .inr (.inl ⟨w',ahP (f:=Instr.storeAt T (a.eval x) (a.eval v)) (by simp only[execOp,ho]) ?_,g',β',hi.put o.dst VS.undef⟩);simp[Instr.storeAt,Instr.sureAddr,hy,hr]
end
end Go.Ab
namespace Go.Ab
section
variable {P:aT} {C:Ctx} {g:Nat->np} {β:Id->Option Pl} {s:AS} {a:Act} {w:cd} {o:Oper}
theorem aif(h:Inv C g β s a w){x:bU}(ho:o.op= .move x\/o.op= .assign x):gr P o a w (jf C (s.put o.dst (s.ev x))):=by
 refine h.value (h.ev x) ?_
 rcases ho with ho | ho <;> simp[execOp,ho]
theorem aBR(h:Inv C g β s a w){c x y:bU}(ho:o.op= .pick c x y){v:aC}(he:(aye (s.ev c) (s.ev x) (s.ev y)).eval=av v):gr P o a w (jf C (s.put o.dst v)):=by
 have hc:=h.ev c;have hx:=h.ev x;have hy:=h.ev y;unfold aye at he;split at he
 ·rename_i b hb;rw[hb]at hc;have aYE:=Zx hc;have hr:(execOp a.eval o).run P w= .ok (.value (if b then a.eval x else a.eval y)) w:=by simp[execOp,ho,aYE,asBool]
  split at he
  ·rename_i bx by' aYz aYA;obtain rfl:=az.1 he;rw[aYz]at hx;rw[aYA]at hy;refine h.value ?_ hr
   cases b
   ·simpa using hy
   ·simpa using hx
  ·cases b with
   |true=>
    simp only[Out.eval,aA]at he;subst he;exact h.value (by simpa using hx) hr
   |false=>
    simp only[Out.eval,aA]at he;subst he;exact h.value (by simpa using hy) hr
 ·simp only[aw]at he
theorem af9(h:Inv C g β s a w){x:bU}(ho:o.op= .nilCheck x){s':AS}(he:(match s.ev x with
  | .ptr id v p n=>Out.ok (s.put o.dst (.ptr id v p n))
  | .dV t y=> .ok (s.put o.dst (.dV t y))
  | .d (.vC t) y=> .get (y:Option t.den) λy=> .ok (s.put o.dst (.dV t y))
  | .fn f c=> .ok (s.put o.dst (.fn f c))
  |_=> .fail).eval=av s'):gr P o a w (jf C s'):=by
 have hx:=h.ev x;split at he
 ·rename_i id v p n hv;obtain rfl:=az.1 he;rw[hv]at hx;obtain⟨ad,hy,_⟩:=xk hx;exact h.value hx (by simp[execOp,ho,hy])
 ·rename_i t y hv;obtain rfl:=az.1 he;rw[hv]at hx;obtain⟨b,off,vs,hy,_⟩:=yi hx;exact h.value hx (by simp[execOp,ho,hy])
 ·rename_i t y hv;obtain⟨z,e,he⟩:=yJ.1 he;subst e;obtain rfl:=az.1 he;rw[hv]at hx;have hx:=R1 hx;obtain⟨b,off,vs,hy,_⟩:=yi hx;exact h.value hx (by simp[execOp,ho,hy])
 ·rename_i f c hv;obtain rfl:=az.1 he;rw[hv]at hx;obtain⟨cs,hV,hO⟩:=hx.fA rfl;simp only[V]at hV;obtain⟨vs,e,hc⟩:=hV;have hO':cs=[a.eval x]:=hO;rw[e]at hO';have hy:a.eval x= .func (.func f) #[] vs.toArray:=by simpa using hO'.symm
  refine h.value (v:= .fn f c) ⟨cs,by simp only[V];exact⟨vs,e,hc⟩,hO⟩ (by simp[execOp,ho,hy])
 ·simp only[aw]at he
theorem apr{op:BinOp}{k k':lC}{x y:Int}{v:aC}(he:(aHG op k x k' y).eval=av v)(T:TypeId)(E:Env):
  ∃z,(binOp op T (.int k x) (.int k' y)).run P w= .ok z w/\VS E v z:=by
 unfold aHG at he;have same:∀(hk:decide (k=k')=aZ),k=k':=λhk=>by simpa using hk
 cases op with
 |shl=>
  obtain⟨h1,h2⟩:=b8.1 he;obtain rfl:=az.1 h2;have h1:¬y < 0:=by simpa using h1
  exact⟨_,by simp[binOp,Op.shift,h1],mM _ _⟩
 |shr=>
  obtain⟨h1,h2⟩:=b8.1 he;obtain rfl:=az.1 h2;have h1:¬y < 0:=by simpa using h1
  exact⟨_,by simp[binOp,Op.shift,h1],mM _ _⟩
 |quo=>
  obtain⟨h1,h2⟩:=aH.1 he;obtain rfl:=same h1;obtain⟨h3,h4⟩:=b8.1 h2;obtain rfl:=az.1 h4;have h3:y≠0:=by simpa using h3
  exact⟨_,by simp[binOp,Op.intDiv,h3],mM _ _⟩
 |rem=>
  obtain⟨h1,h2⟩:=aH.1 he;obtain rfl:=same h1;obtain⟨h3,h4⟩:=b8.1 h2;obtain rfl:=az.1 h4;have h3:y≠0:=by simpa using h3
  exact⟨_,by simp[binOp,Op.intDiv,h3],mM _ _⟩
 |add | sub | mul=>
  obtain⟨h1,h2⟩:=aH.1 he;obtain rfl:=same h1;obtain rfl:=az.1 h2;exact⟨_,by simp[binOp,Op.intArith],mM _ _⟩
 |and | or | xor | andNot=>
  obtain⟨h1,h2⟩:=aH.1 he;obtain rfl:=same h1;obtain rfl:=az.1 h2;refine⟨_,?_,mM _ _⟩;unfold binOp Op.intBits;simp[cV]
 |eql | neq | lss | leq | gtr | geq=>
  obtain⟨h1,h2⟩:=aH.1 he;obtain rfl:=same h1;obtain rfl:=az.1 h2;refine⟨_,?_,xC _⟩;simp[binOp,Op.intCmp]
theorem arG{op:BinOp}{x y:ByteArray}{v:aC}(he:(aKr op x y).eval=av v)(T:TypeId)(E:Env):
  ∃z,(binOp op T (.string x) (.string y)).run P w= .ok z w/\VS E v z:=by
 unfold aKr at he;cases op <;> simp only[aw]at he
 case add=>
  obtain⟨h1,h2⟩:=b8.1 he;obtain rfl:=az.1 h2;have h1:¬((x.size+y.size:Nat):Int) > IntKind.i64.max:=by simpa using h1
  refine⟨.string (x++y),?_,ajv _⟩;show(Op.stringOp .add x y).run P w=_;unfold Op.stringOp;simp only[h1,bA];rfl
 all_goals
  obtain rfl:=az.1 he;exact⟨_,by simp[binOp,Op.stringOp],xC _⟩
theorem pk{op:BinOp}{T:TypeId}{x y:bU}{u v:Value}(h1:u≠ .nilIface)(h2:uf u=aQ):(eqGuard op T x y u v).run P w= .ok () w:=by
 unfold eqGuard;cases op <;> simp
 all_goals (cases u <;> simp_all [uf])
theorem AI{T:TypeId}{b:Bool}(h:PR P T b=aZ):∃i,P.info? T=av i/\∀w,(isAgg T).run P w= .ok b w:=by
 unfold PR at h;cases hu:P.underlying T with
 |none=>rw[hu]at h;cases h
 |some d=>
  obtain⟨i,hi⟩:=axM hu;refine⟨i,hi,λw=> ?_⟩;rw[hu]at h;unfold isAgg;rw[cC,run_underlying hu w];cases d <;> simp at h <;> simp[h]
theorem yX{T:TypeId}{b:Bool}(h:PR P T b=aZ){cs:List Value}{off n:Nat}(hn:P.cellsOf T=n)(hb:b=aQ->n=1)(hl:off+n<=cs.length):
  ∃y,(part T cs.toArray off).run P w= .ok y w/\gI b ((cs.drop off).take n) y:=by
 obtain⟨i,hi,ao5⟩:=AI h;rw[oC hi]at hn;unfold part;rw[cC,ao5 w];simp only[bP];cases b with
 |true=>
  refine⟨.agg ((cs.drop off).take n).toArray,?_,rfl⟩;simp only[bM,cC,run_sizeOf hi,bP,hn,ez];simp[List.extract_eq_take_drop]
 |false=>
  have h1:=hb rfl;subst h1;have iA:off < cs.length:=ak;refine⟨cs[off],?_,?_⟩
  ·simp[iA]
  ·show(cs.drop off).take 1=[cs[off]];rw[aq iA,List.take_succ_cons,dZ]
theorem yZ{t:Ty}(h:t.agg=aQ):t.size=1:=by cases t <;> first | rfl | (simp[Ty.agg]at h)
theorem J3{α:Type}(f:α->α->Bool)(x y:α)(xs ys:List α):ni f (x::xs) (y::ys)=(f x y && ni f xs ys):=rfl
theorem xK(E:Env):∀(n:Nat) (T:TypeId) (t:Ty),uB P n T t=aZ->∀(d:Nat),n<=d->∀(cx cy:List Value) (x y:t.den) (u v:Value),dA E t cx x->dA E t cy y->gI t.agg cx u->gI t.agg cy v->
  (eI d T u v).run P w= .ok (t.beq x y) w
 | 0,T,t,h,_,_,_,_,_,_,_,_,_,_,_,_=>by simp[uB]at h
 |n+1,T,t,h,0,hd,_,_,_,_,_,_,_,_,_,_=>ak
 |n+1,T,t,h,d+1,hd,cx,cy,x,y,u,v,hx,hy,hu,hv=>by
  simp only[uB]at h;split at h
  ·rename_i k k' hT;simp only[dA]at hx hy;have e1:cx=[u]:=hu;have e2:cy=[v]:=hv;rw[hx]at e1;rw[hy]at e2;simp only[dB,jw]at e1 e2;subst e1 e2;rw[run_equalIn_int w d T _ _ _ _ hT];rfl
  ·rename_i hT;simp only[dA]at hx hy;have e1:cx=[u]:=hu;have e2:cy=[v]:=hv;rw[hx]at e1;rw[hy]at e2;simp only[dB,jw]at e1 e2;subst e1 e2;rw[run_equalIn_bool' w d T _ _ hT];rfl
  ·rename_i hT;simp only[dA]at hx hy;have e1:cx=[u]:=hu;have e2:cy=[v]:=hv;rw[hx]at e1;rw[hy]at e2;simp only[dB,jw]at e1 e2;subst e1 e2;rw[run_equalIn_string w d T _ _ hT];rfl
  ·rename_i m e m' t' hT;simp only[au,dK]at h;obtain⟨⟨⟨⟨rfl,aRs⟩,uW⟩,QO⟩,xL⟩:=h;simp only[dA]at hx hy;obtain⟨aV8,aVU⟩:=hx;obtain⟨aYY,aYF⟩:=hy;have e1:u= .agg cx.toArray:=hu;have e2:v= .agg cy.toArray:=hv;subst e1 e2;obtain⟨i,hi,ao5⟩:=AI QO;have hsz':=uW;rw[oC hi]at hsz';simp only[eI,cC,run_underlying hT,bP,run_sizeOf hi,hsz'];simp only[Std.Legacy.Range.forIn_eq_forIn_range'];have hm:([:m]:Std.Legacy.Range).size=m:=by simp[Std.Legacy.Range.size]
   rw[hm];have asp:∀c z,dA E t' c z->c.length=t'.size:=λc z hz=>hz.size
   have bx:t'.agg=aQ->t'.size=1:=yZ
   have key:∀(k:Nat) (x y:List t'.den) (j:Nat),x.length=k->y.length=k->bI (dA E t') (cx.drop (j*t'.size)) x->bI (dA E t') (cy.drop (j*t'.size)) y->
     (forIn (List.range' j k) ((aD,()):Option Bool×Unit) λi __s=>(do
      let __do_lift <-part e cx.toArray (i*t'.size)
      let __do_lift_1 <-part e cy.toArray (i*t'.size)
      let __do_lift <-eI d e __do_lift __do_lift_1
      if(!__do_lift)=aZ then pure (ForInStep.done (av aQ,())) else pure (ForInStep.yield (aD,())):Sem (ForInStep (Option Bool×Unit)))).run P w= .ok (if ni t'.beq x y then aD else av aQ,()) w:=by
    intro k
    induction k with
    |zero=>
     intro x y j hx hy _ _;rw[List.length_eq_zero_iff.1 hx,List.length_eq_zero_iff.1 hy];rfl
    |succ k ih=>
     intro x y j hx hy hcx' hcy';cases x with
     |nil=>simp at hx
     |cons x0 xs=>
      cases y with
      |nil=>simp at hy
      |cons y0 ys=>
       have gx:=bI.get asp hcx' 0 (by simp);have gy:=bI.get asp hcy' 0 (by simp);simp only[ou,aG,List.getElem_cons_zero]at gx gy;have lenx:((cx.drop (j*t'.size)).take t'.size).length=t'.size:=gx.size;have leny:((cy.drop (j*t'.size)).take t'.size).length=t'.size:=gy.size;have XA:t'.size≠0:=by simpa using aRs
       have aV4:j*t'.size+t'.size<=cx.length:=by simp only[bB,dG]at lenx;omega
       have aYT:j*t'.size+t'.size<=cy.length:=by simp only[bB,dG]at leny;omega
       obtain⟨ux,h1,o1⟩:=yX (w:=w) QO uW bx (cs:=cx) (off:=j*t'.size) aV4;obtain⟨uy,h2,o2⟩:=yX (w:=w) QO uW bx (cs:=cy) (off:=j*t'.size) aYT;have h3:=xK E n e t' xL d ak _ _ x0 y0 ux uy gx gy o1 o2;have nx:bI (dA E t') (cx.drop ((j+1)*t'.size)) xs:=by have:=bI.drop asp 1 hcx';rw[gJ]at this;simpa[fe]using this
       have ny:bI (dA E t') (cy.drop ((j+1)*t'.size)) ys:=by have:=bI.drop asp 1 hcy';rw[gJ]at this;simpa[fe]using this
       have:=ih xs ys (j+1) (by simpa using hx) (by simpa using hy) nx ny;rw[List.range'_succ,List.forIn_cons];simp only[cC,h1,h2,h3,bP,J3];rcases jI (t'.beq x0 y0) with hb | hb
       ·simp only[hb,cQ,bw,bA,ez,bP,bF];exact this
       ·simp only[hb,fH,bM,ez,bP,cY,bw,bA]
   have:=key m x y 0 aV8 aYY (by simpa using aVU) (by simpa using aYF);rw[this];show _=Result.ok (ni t'.beq x y) w;cases ni t'.beq x y <;> rfl
  ·rename_i t0 _ _ fs hT;simp only[au,cS]at h;obtain⟨nA,aQ7⟩:=h;have hF:P.fieldsOf T=fs:=by simp[Program.fieldsOf,hT]
   have hT':P.underlying T=av (.struct (P.fieldsOf T)):=by rw[hF];exact hT
   have key:∀(fl:List Field) (t:Ty) (off:Nat),Py P (uB P n) fl t off=aZ->∀(x y:t.den),dA E t (cx.drop off) x->dA E t (cy.drop off) y->
     (Op.eqFields d cx.toArray cy.toArray fl).run P w= .ok (t.beq x y) w:=by
    intro fl
    induction fl with
    |nil=>
     intro t off hc x y _ _;cases t <;> first | (simp[Py]at hc;done) | rfl
    |cons f fl ih=>
     intro t off hc x y hx hy;cases t <;> first | (simp[Py]at hc;done) | skip
     rename_i ta tb;simp only[Py,au,cS,dK,ik]at hc;obtain⟨⟨⟨⟨⟨⟨aWf,aNe⟩,hz⟩,uW⟩,QO⟩,xL⟩,aHg⟩:=hc;simp only[dA]at hx hy;obtain⟨xa,xb,ex,aUg,aWF⟩:=hx;obtain⟨ya,yb,ey,aX2,aZl⟩:=hy;have bx:ta.agg=aQ->ta.size=1:=yZ;have lx:xa.length=ta.size:=aUg.size;have ly:ya.length=ta.size:=aX2.size;have split:∀(cs xa xb:List Value),cs.drop off=xa++xb->xa.length=ta.size->(cs.drop off).take ta.size=xa/\cs.drop (off+ta.size)=xb/\off+ta.size<=cs.length:=by intro cs xa xb e l;refine⟨by rw[e];exact lQ l,by rw[<-gJ,e];exact lP l,?_⟩;have:=bu ag e;simp only[dG,ai]at this;omega
     obtain⟨sx1,sx2,sx3⟩:=split cx xa xb ex lx;obtain⟨sy1,sy2,sy3⟩:=split cy ya yb ey ly;obtain⟨ux,h1,o1⟩:=yX (w:=w) QO uW bx (cs:=cx) (off:=off) sx3;obtain⟨uy,h2,o2⟩:=yX (w:=w) QO uW bx (cs:=cy) (off:=off) sy3;rw[sx1]at o1;rw[sy1]at o2;have h3:=xK E n f.type ta xL d ak _ _ x.1 y.1 ux uy aUg aX2 o1 o2;have h4:=ih tb (off+ta.size) aHg x.2 y.2 (by rw[sx2];exact aWF) (by rw[sy2];exact aZl);simp only[Op.eqFields,ne_eq,aWf,not_false_eq_true,bM,cC,aNe,h1,h2,h3,bP];show _=Result.ok (ta.beq x.1 y.1 && tb.beq x.2 y.2) w;rcases jI (ta.beq x.1 y.1) with hb | hb
     ·simp only[hb,cQ,bw,bA,bF];exact h4
     ·simp[hb]
   have QO:t0.agg=aZ:=by cases hl:fs.toList <;> rw[hl]at aQ7 <;> cases t0 <;> first | rfl | (simp[Py]at aQ7;done)
   rw[QO]at hu hv;have e1:u= .agg cx.toArray:=hu;have e2:v= .agg cy.toArray:=hv;subst e1 e2;rw[run_equalIn_struct w d T _ _ hT' nA,hF];exact key fs.toList t0 0 aQ7 x y (by simpa using hx) (by simpa using hy)
  ·cases h
end
end Go.Ab
namespace Go.Ab
section
variable {P:aT} {C:Ctx} {g:Nat->np} {β:Id->Option Pl} {s:AS} {a:Act} {w:cd} {o:Oper}
theorem aIC{E:Env}{v:aC}{y c:Value}(h:VS E v y)(hc:v.fA=aZ)(ha:v.agg=aQ)(hV:∀cs,V E v cs->cs=[c]):y=c:=by have:=h.single hc ha;simpa using hV _ this
theorem Mt{E:Env}{y:Value}(h:VS E .sq y):y= .pointer aD:=aIC h rfl rfl λcs hv=>by simpa only[V]using hv
theorem ZU{E:Env}{y:Value}(h:VS E .yP y):y= .nilFunc:=aIC h rfl rfl λcs hv=>by simpa only[V]using hv
theorem abB{E:Env}{f:fV}{c:aC}{y:Value}(h:VS E (.fn f c) y):∃vs,y= .func (.func f) #[] vs.toArray/\VC E c vs:=by have h1:=h.single rfl rfl;simp only[V]at h1;obtain⟨vs,e,hc⟩:=h1;exact⟨vs,by simpa using e,hc⟩
theorem fT{T:TypeId}{u v:Value}{b:Bool}(h:∀d,(eI (d+1) T u v).run P w= .ok b w):(Op.equal T u v).run P w= .ok b w:=h 9999
theorem abu{T:TypeId}{x y:aC}{u v:Value}{E:Env}(hx:VS E x u)(hy:VS E y v){b:Bool}(he:(C3 P T x y).eval=av b):
  (Op.equal T u v).run P w= .ok b w/\u≠ .nilIface/\(uf u=aQ\/(uf v=aZ/\P.eqGuardType P.depth T=aQ))/\
   (∀op,binOp op T u v=(match op with | .eql=>do pure (.bool (<-Op.equal T u v)) | .neq=>do pure (.bool (!(<-Op.equal T u v))) | _=>binOp op T u v)):=by
 unfold C3 at he;split at he
 ·rename_i t x' t' y';obtain⟨y'',h1,h2⟩:=ax.1 he;obtain⟨rfl,h1⟩:=km (lf.1 h1);simp only at h1;subst h1;obtain⟨h3,h4⟩:=aH.1 h2;obtain rfl:=az.1 h4;simp only[au,gR,cS,bf]at h3;obtain⟨h3,h5⟩:=h3;obtain⟨cx,hVx,hOx⟩:=hx.fA rfl;obtain⟨cy,hVy,hOy⟩:=hy.fA rfl;simp only[V]at hVx hVy;have hr:=xK (w:=w) E depth T t' h5 10000 fg cx cy x' y' u v hVx hVy hOx hOy;refine⟨hr,?_⟩;rcases h3 with⟨QO,aYO⟩ | rfl
  ·have hOx':gI t'.agg cx u:=hOx;have hOy':gI t'.agg cy v:=hOy;rw[QO]at hOx' hOy';have e1:u= .agg cx.toArray:=hOx';have e2:v= .agg cy.toArray:=hOy';subst e1 e2;exact⟨by simp,.inr ⟨rfl,aYO⟩,λop=>by cases op <;> rfl⟩
  ·simp only[dA]at hVx hVy;have e1:cx=[u]:=hOx;have e2:cy=[v]:=hOy;rw[hVx]at e1;rw[hVy]at e2;simp only[dB,jw]at e1 e2;subst e1 e2;exact⟨by simp,.inl rfl,λop=>by cases op <;> rfl⟩
 ·obtain⟨h1,h2⟩:=aH.1 he;obtain rfl:=az.1 h2;rw[mu hx,mu hy];unfold C3.isSl at h1;split at h1 <;> try (cases h1;done)
  rename_i e hT;exact⟨fT λd=>by simp[eI,run_underlying hT],by simp,.inl rfl,λop=>by cases op <;> rfl⟩
 ·obtain⟨h1,h2⟩:=aH.1 he;obtain⟨h3,h4⟩:=b8.1 h2;obtain rfl:=az.1 h4;obtain⟨ad,cap,vs,rfl,_,hs,_⟩:=vY hx;rw[mu hy];have hs:=hs (by simpa using h3);obtain⟨ad',rfl⟩:=bR.1 hs;unfold C3.isSl at h1;split at h1 <;> try (cases h1;done)
  rename_i e hT;exact⟨fT λd=>by simp[eI,run_underlying hT],by simp,.inl rfl,λop=>by cases op <;> rfl⟩
 ·obtain⟨h1,h2⟩:=aH.1 he;obtain⟨h3,h4⟩:=b8.1 h2;obtain rfl:=az.1 h4;obtain⟨ad,cap,vs,rfl,_,hs,_⟩:=vY hy;rw[mu hx];have hs:=hs (by simpa using h3);obtain⟨ad',rfl⟩:=bR.1 hs;unfold C3.isSl at h1;split at h1 <;> try (cases h1;done)
  rename_i e hT;exact⟨fT λd=>by simp[eI,run_underlying hT],by simp,.inl rfl,λop=>by cases op <;> rfl⟩
 ·obtain⟨h1,h2⟩:=aH.1 he;obtain⟨h3,h4⟩:=b8.1 h2;obtain rfl:=az.1 h4;obtain⟨ad,cap,rfl,_,hs,_⟩:=tJ hx;rw[mu hy];have hs:=hs (by simpa using h3);obtain⟨ad',rfl⟩:=bR.1 hs;unfold C3.isSl at h1;split at h1 <;> try (cases h1;done)
  rename_i e hT;exact⟨fT λd=>by simp[eI,run_underlying hT],by simp,.inl rfl,λop=>by cases op <;> rfl⟩
 ·obtain⟨h1,h2⟩:=aH.1 he;obtain⟨h3,h4⟩:=b8.1 h2;obtain rfl:=az.1 h4;obtain⟨ad,cap,rfl,_,hs,_⟩:=tJ hy;rw[mu hx];have hs:=hs (by simpa using h3);obtain⟨ad',rfl⟩:=bR.1 hs;unfold C3.isSl at h1;split at h1 <;> try (cases h1;done)
  rename_i e hT;exact⟨fT λd=>by simp[eI,run_underlying hT],by simp,.inl rfl,λop=>by cases op <;> rfl⟩
 ·obtain⟨h1,h2⟩:=aH.1 he;obtain rfl:=az.1 h2;rw[Mt hx,Mt hy];unfold C3.isPt at h1;split at h1 <;> try (cases h1;done)
  rename_i e hT;exact⟨fT λd=>by simp[eI,run_underlying hT],by simp,.inl rfl,λop=>by cases op <;> rfl⟩
 ·obtain⟨h1,h2⟩:=aH.1 he;obtain rfl:=az.1 h2;obtain⟨ad,rfl,_⟩:=xk hx;rw[Mt hy];unfold C3.isPt at h1;split at h1 <;> try (cases h1;done)
  rename_i e hT;exact⟨fT λd=>by simp[eI,run_underlying hT],by simp,.inl rfl,λop=>by cases op <;> rfl⟩
 ·obtain⟨h1,h2⟩:=aH.1 he;obtain rfl:=az.1 h2;obtain⟨ad,rfl,_⟩:=xk hy;rw[Mt hx];unfold C3.isPt at h1;split at h1 <;> try (cases h1;done)
  rename_i e hT;exact⟨fT λd=>by simp[eI,run_underlying hT],by simp,.inl rfl,λop=>by cases op <;> rfl⟩
 ·rename_i t q;obtain⟨h1,h2⟩:=aH.1 he;obtain rfl:=az.1 h2;unfold C3.isPt at h1;split at h1 <;> try (cases h1;done)
  rename_i e hT;rw[Mt hy];cases q with
  |none=>
   rw[ah0 hx];exact⟨fT λd=>by simp[eI,run_underlying hT],by simp,.inl rfl,λop=>by cases op <;> rfl⟩
  |some z=>
   obtain⟨b,off,vs,rfl,_⟩:=yi (R1 hx);exact⟨fT λd=>by simp[eI,run_underlying hT],by simp,.inl rfl,λop=>by cases op <;> rfl⟩
 ·rename_i t q;obtain⟨h1,h2⟩:=aH.1 he;obtain rfl:=az.1 h2;unfold C3.isPt at h1;split at h1 <;> try (cases h1;done)
  rename_i e hT;rw[Mt hx];cases q with
  |none=>
   rw[ah0 hy];exact⟨fT λd=>by simp[eI,run_underlying hT],by simp,.inl rfl,λop=>by cases op <;> rfl⟩
  |some z=>
   obtain⟨b,off,vs,rfl,_⟩:=yi (R1 hy);exact⟨fT λd=>by simp[eI,run_underlying hT],by simp,.inl rfl,λop=>by cases op <;> rfl⟩
 ·obtain⟨h1,h2⟩:=aH.1 he;obtain rfl:=az.1 h2;rw[ZU hx,ZU hy];unfold C3.isFn at h1;split at h1 <;> try (cases h1;done)
  rename_i hT;exact⟨fT λd=>by simp[eI,run_underlying hT],by simp,.inl rfl,λop=>by cases op <;> rfl⟩
 ·obtain⟨h1,h2⟩:=aH.1 he;obtain rfl:=az.1 h2;obtain⟨vs,rfl,_⟩:=abB hx;rw[ZU hy];unfold C3.isFn at h1;split at h1 <;> try (cases h1;done)
  rename_i hT;exact⟨fT λd=>by simp[eI,run_underlying hT],by simp,.inl rfl,λop=>by cases op <;> rfl⟩
 ·obtain⟨h1,h2⟩:=aH.1 he;obtain rfl:=az.1 h2;obtain⟨vs,rfl,_⟩:=abB hy;rw[ZU hx];unfold C3.isFn at h1;split at h1 <;> try (cases h1;done)
  rename_i hT;exact⟨fT λd=>by simp[eI,run_underlying hT],by simp,.inl rfl,λop=>by cases op <;> rfl⟩
 ·simp only[aw]at he
theorem aoO{op:BinOp}{T:TypeId}{x y:bU}{u v:Value}(hu:uf u=aZ)(hv:uf v=aZ)(hm:P.eqGuardType P.depth T=aQ):(eqGuard op T x y u v).run P w= .ok () w:=by
 cases u <;> first | (simp[uf]at hu;done) | skip
 cases v <;> first | (simp[uf]at hv;done) | skip
 exact run_eqGuard_agg w op T x y _ _ hm
theorem asN(h:Inv C g β s a w){op:BinOp}{T U:TypeId}{x y:bU}(ho:o.op= .binOp op T x y U){v:aC}(he:(aQo P T op (s.ev x) (s.ev y)).eval=av v):gr P o a w (jf C (s.put o.dst v)):=by
 have hx:=h.ev x;have hy:=h.ev y;have fin:∀z,(binOp op T (a.eval x) (a.eval y)).run P w= .ok z w->(eqGuard op T x y (a.eval x) (a.eval y)).run P w= .ok () w->VS (s.env w g β) v z->gr P o a w (jf C (s.put o.dst v)):=by
  intro z h1 h2 h3;refine h.value h3 ?_
  simp[execOp,ho,h1,h2]
 unfold aQo at he;split at he
 ·rename_i k n k' m hn hm;rw[hn]at hx;rw[hm]at hy;have e1:=w6 hx;have e2:=w6 hy;obtain⟨z,h1,h2⟩:=apr (P:=P) (w:=w) he T (s.env w g β);exact fin z (by rw[e1,e2];exact h1) (by rw[e1,e2];exact pk (by simp) rfl) h2
 ·rename_i n m hn hm;rw[hn]at hx;rw[hm]at hy;have e1:=Ll hx;have e2:=Ll hy;obtain⟨z,h1,h2⟩:=arG (P:=P) (w:=w) he T (s.env w g β);exact fin z (by rw[e1,e2];exact h1) (by rw[e1,e2];exact pk (by simp) rfl) h2
 ·have grd:(uf (a.eval x)=aQ\/(uf (a.eval y)=aZ/\P.eqGuardType P.depth T=aQ))->a.eval x≠ .nilIface->(eqGuard op T x y (a.eval x) (a.eval y)).run P w= .ok () w:=by
   intro hh il;rcases hh with hh | ⟨hh,hm⟩
   ·exact pk il hh
   ·rcases jI (uf (a.eval x)) with hx | hx
    ·exact aoO hx hh hm
    ·exact pk il hx
  split at he
  ·obtain⟨b,h1,h2⟩:=ax.1 he;obtain rfl:=az.1 h2;obtain⟨q1,q2,q3,q4⟩:=abu (w:=w) hx hy h1;refine fin (.bool b) ?_ (grd q3 q2) (xC b)
   rw[q4 .eql];simp[q1]
  ·obtain⟨b,h1,h2⟩:=ax.1 he;obtain rfl:=az.1 h2;obtain⟨q1,q2,q3,q4⟩:=abu (w:=w) hx hy h1;refine fin (.bool (!b)) ?_ (grd q3 q2) (xC (!b))
   rw[q4 .neq];simp[q1]
  ·simp only[aw]at he
theorem aDJ(h:Inv C g β s a w){op:UnOp}{T:TypeId}{x:bU}(ho:o.op= .unOp op T x){v:aC}(he:(aVn op (s.ev x)).eval=av v):gr P o a w (jf C (s.put o.dst v)):=by
 have hx:=h.ev x;unfold aVn at he;split at he
 ·rename_i b hb;rw[hb]at hx;obtain rfl:=az.1 he;exact h.value (xC _) (by simp[execOp,ho,Zx hx,Op.unary])
 ·rename_i k n hb;rw[hb]at hx;obtain rfl:=az.1 he;exact h.value (mM _ _) (by simp[execOp,ho,w6 hx,Op.unary,Op.intArith])
 ·rename_i k n hb;rw[hb]at hx;obtain rfl:=az.1 he;refine h.value (mM _ _) ?_
  simp only[execOp,ho,w6 hx,Op.unary,Op.intBits];simp[cV]
 ·simp only[aw]at he
end
end Go.Ab
namespace Go.Ab
section
variable {P:aT} {C:Ctx} {g:Nat->np} {β:Id->Option Pl} {s:AS} {a:Act} {w:cd} {o:Oper}
theorem BG{E:Env}{v:aC}{y:Value}(h:VS E v y){n:Int}(he:(asInt v).eval=av n):∃k,y= .int k n:=by
 unfold asInt at he;split at he
 ·rename_i k m;obtain rfl:=az.1 he;exact⟨k,w6 h⟩
 ·simp only[aw]at he
theorem BA{k:lC}{i:Int}{y:Nat}(code:BoundsCode)(h:0<=i/\i<=(y:Int)):(Instr.sliceBound (.int k i) y code).run P w= .ok i.toNat w:=run_sliceBound w k i y code h.1 h.2
theorem zV(h:Inv C g β s a w){n cap:Nat}(hn:n<=cap){lo hi:Option bU}{r:Nat×Nat}(he:(bounds s n lo hi).eval=av r)(isS:Bool){mx:Option Value}{cap':Nat}
  (hm:(mx=aD/\cap'=cap)\/∃k mv,hi.isSome=aZ/\mx=av (.int k mv)/\(r.2:Int)<=mv/\mv<=n/\cap'=mv.toNat):
  (Instr.sliceBounds isS n cap (lo.map a.eval) (hi.map a.eval) mx).run P w= .ok (r.1,r.2,cap') w/\r.1<=r.2/\r.2<=n:=by
 unfold bounds at he;obtain⟨hh,h1,h2⟩:=ax.1 he;obtain⟨ll,h3,h4⟩:=ax.1 h2;obtain rfl:=az.1 h4;have aPF:hh<=n/\∀y,hi.map a.eval=av y->∃k i,y= .int k i/\0<=i/\i<=(n:Int)/\hh=i.toNat:=by
  cases hi with
  |none=>
   simp only at h1;obtain rfl:=az.1 h1;exact⟨ay _,λy hy=>by cases hy⟩
  |some x=>
   simp only at h1;obtain⟨i,q1,q2⟩:=ax.1 h1;obtain⟨q3,q4⟩:=b8.1 q2;obtain rfl:=az.1 q4;simp only[bf]at q3;obtain⟨k,hk⟩:=BG (h.ev x) q1;refine⟨ak,λy hy=> ?_⟩;simp only[eJ,aA]at hy;exact⟨k,i,by rw[<-hy];exact hk,q3.1,q3.2,rfl⟩
 have aM7:hi.map a.eval=aD->hh=n:=by
  intro hy;cases hi with
  |none=>simp only at h1;exact(az.1 h1).symm
  |some x=>cases hy
 have lo1:ll<=hh/\∀y,lo.map a.eval=av y->∃k i,y= .int k i/\0<=i/\i<=(hh:Int)/\ll=i.toNat:=by
  cases lo with
  |none=>
   simp only at h3;obtain rfl:=az.1 h3;exact⟨aP _,λy hy=>by cases hy⟩
  |some x=>
   simp only at h3;obtain⟨i,q1,q2⟩:=ax.1 h3;obtain⟨q3,q4⟩:=b8.1 q2;obtain rfl:=az.1 q4;simp only[bf]at q3;obtain⟨k,hk⟩:=BG (h.ev x) q1;refine⟨ak,λy hy=> ?_⟩;simp only[eJ,aA]at hy;exact⟨k,i,by rw[<-hy];exact hk,q3.1,q3.2,rfl⟩
 have lo0:lo.map a.eval=aD->ll=0:=by
  intro hy;cases lo with
  |none=>simp only at h3;exact(az.1 h3).symm
  |some x=>cases hy
 refine⟨?_,lo1.1,aPF.1⟩;unfold Instr.sliceBounds;rcases hm with⟨rfl,rfl⟩ | ⟨k2,mv,hs,rfl,aXS,aV9,rfl⟩
 ·cases aU4:hi.map a.eval with
  |none=>
   obtain rfl:=aM7 aU4;cases ZH:lo.map a.eval with
   |none=>
    obtain rfl:=lo0 ZH;rfl
   |some y=>
    obtain⟨k,i,rfl,q1,q2,rfl⟩:=lo1.2 y ZH;simp only[cC,ez,bP,BA _ ⟨q1,q2⟩]
  |some z=>
   obtain⟨k',i',rfl,p1,p2,rfl⟩:=aPF.2 z aU4;have hb:∀code,(Instr.sliceBound (.int k' i') cap' code).run P w= .ok i'.toNat w:=λcode=>BA code ⟨p1,ak⟩
   cases ZH:lo.map a.eval with
   |none=>
    obtain rfl:=lo0 ZH;simp only[cC,ez,bP,hb]
   |some y=>
    obtain⟨k,i,rfl,q1,q2,rfl⟩:=lo1.2 y ZH;simp only[cC,ez,bP,hb,BA _ ⟨q1,q2⟩]
 ·cases aU4:hi.map a.eval with
  |none=>cases hi <;> simp_all
  |some z=>
   obtain⟨k',i',rfl,p1,p2,rfl⟩:=aPF.2 z aU4;have aXS:((i'.toNat:Nat):Int)<=mv:=aXS;have h0:∀code,(Instr.sliceBound (.int k2 mv) cap code).run P w= .ok mv.toNat w:=λcode=>BA code ⟨ak,ak⟩
   have hb:∀code,(Instr.sliceBound (.int k' i') mv.toNat code).run P w= .ok i'.toNat w:=λcode=>BA code ⟨p1,ak⟩
   cases ZH:lo.map a.eval with
   |none=>
    obtain rfl:=lo0 ZH;simp only[cC,ez,bP,hb,h0]
   |some y=>
    obtain⟨k,i,rfl,q1,q2,rfl⟩:=lo1.2 y ZH;simp only[cC,ez,bP,hb,h0,BA _ ⟨q1,q2⟩]
theorem qe{T:TypeId}{z:Nat}(h1:mg P T=av z)(h2:zF P T=aD):∃e,P.underlying T=av (.slice e)/\P.cellsOf e=z/\0 < z:=by
 unfold mg at h1;unfold zF at h2;split at h1
 ·rename_i n e hT;rw[hT]at h2;cases h2
 ·rename_i e hT;cases hc:P.cellsOf e with
  |zero=>rw[hc]at h1;cases h1
  |succ k=>
   rw[hc]at h1;simp only[aA]at h1;exact⟨e,hT,ak,ak⟩
 ·cases h1
theorem As{T:TypeId}{z n:Nat}(h1:mg P T=av z)(h2:zF P T=av n):∃e,P.underlying T=av (.array n e)/\P.cellsOf e=z/\0 < z:=by
 unfold mg at h1;unfold zF at h2;split at h1
 ·rename_i n e hT;rw[hT]at h2;simp only[aA]at h2;subst h2;cases hc:P.cellsOf e with
  |zero=>rw[hc]at h1;cases h1
  |succ k=>
   rw[hc]at h1;simp only[aA]at h1;exact⟨e,hT,ak,ak⟩
 ·rename_i e hT;rw[hT]at h2;cases h2
 ·cases h1
theorem qH{e:TypeId}{z:Nat}(h:P.cellsOf e=z)(hz:0 < z)(w:cd):(sizeOf e).run P w= .ok z w:=by
 unfold Program.cellsOf at h;cases hi:P.info? e with
 |none=>rw[hi]at h;simp at h;omega
 |some i=>rw[hi]at h;rw[run_sizeOf hi];simpa using h
set_option maxHeartbeats 1000000 in
theorem aes(h:Inv C g β s a w){T:TypeId}{x:bU}{lo hi mx:Option bU}(ho:o.op= .slice T x lo hi mx)
  (hm:mx=aD\/∃m y hv mv,mx=av m/\hi=av y/\(asInt (s.ev y)).eval=av hv/\(asInt (s.ev m)).eval=av mv/\0<=hv/\hv<=mv/\mv<=aNH (s.ev x))
  {v:aC} (he:(Le P s T (s.ev x) lo hi).eval=av v):gr P o a w (jf C (s.put o.dst (aoD mx v))):=by
 have hx:=h.ev x;have fin:∀z,(Instr.sliceAt T (a.eval x) (lo.map a.eval) (hi.map a.eval) (mx.map a.eval)).run P w= .ok z w->VS (s.env w g β) (aoD mx v) z->gr P o a w (jf C (s.put o.dst (aoD mx v))):=by intro z h1 h2;exact h.value h2 (eK (f:=Instr.sliceAt T (a.eval x) (lo.map a.eval) (hi.map a.eval) (mx.map a.eval)) (by simp only[execOp,ho]) h1)
 have no:∀ {q:Prop},aNH (s.ev x)= -1->(mx=aD->q)->q:=by
  intro q h1 h2;rcases hm with h3 | ⟨_,_,hv,mv,_,_,_,_,h3,h4,h5⟩
  ·exact h2 h3
  ·omega
 have sl:∀(e:TypeId) (z:Nat) (ad:Option Addr) (len cap:Nat) (b:Nat×Nat),aNH (s.ev x)=(len:Int)->P.underlying T=av (.slice e)->P.cellsOf e=z->0 < z->a.eval x= .slice ad len cap->len<=cap->(bounds s len lo hi).eval=av b->
   ∃cap',(Instr.sliceAt T (a.eval x) (lo.map a.eval) (hi.map a.eval) (mx.map a.eval)).run P w= .ok (.slice (if cap'=b.1 then ad else ad.map (·.add (b.1*z))) (b.2 - b.1) (cap' - b.1)) w/\b.1<=b.2/\b.2<=len/\b.2<=cap'/\cap'<=cap/\(mx=aD->cap'=cap):=by
  intro e z ad len cap b hL hT hz vD hy aEa hb;rcases hm with rfl | ⟨m,y,hv,mv,rfl,rfl,q1,q2,q3,q4,q5⟩
  ·obtain⟨h1,h2,h3⟩:=zV (P:=P) h aEa hb aZ (.inl ⟨rfl,rfl⟩);refine⟨cap,?_,h2,h3,ak,ay _,λ_=>rfl⟩;rw[hy];simp[Instr.sliceAt,Instr.slice,run_underlying hT,h1,qH hz vD]
  ·obtain⟨k,hk⟩:=BG (h.ev m) q2;have ZF:(b.2:Int)<=mv:=by obtain⟨hh,h1,h2⟩:=ax.1 hb;obtain⟨i,r1,r2⟩:=ax.1 h1;obtain⟨r3,r4⟩:=b8.1 r2;obtain rfl:=az.1 r4;obtain⟨ll,_,h4⟩:=ax.1 h2;obtain rfl:=az.1 h4;rw[q1]at r1;obtain rfl:=bn r1;show((hv.toNat:Nat):Int)<=mv;omega
   obtain⟨h1,h2,h3⟩:=zV (P:=P) h aEa hb aZ (mx:=av (.int k mv)) (cap':=mv.toNat) (.inr ⟨k,mv,rfl,rfl,ZF,ak,rfl⟩);refine⟨mv.toNat,?_,h2,h3,ak,ak,λh=>by cases h⟩;rw[hy,eJ (a:=m),hk];simp[Instr.sliceAt,Instr.slice,run_underlying hT,qH hz vD];simp only[eJ]at h1;simp[h1]
 have ar:∀(e:TypeId) (z n:Nat) (ad:Addr) (b:Nat×Nat),mx=aD->P.underlying T=av (.array n e)->P.cellsOf e=z->0 < z->a.eval x= .pointer (av ad)->(bounds s n lo hi).eval=av b->
   (Instr.sliceAt T (a.eval x) (lo.map a.eval) (hi.map a.eval) (mx.map a.eval)).run P w= .ok (.slice (av (if n=b.1 then ad else ad.add (b.1*z))) (b.2 - b.1) (n - b.1)) w/\b.1<=b.2/\b.2<=n:=by
  intro e z n ad b hN hT hz vD hy hb;obtain⟨h1,h2,h3⟩:=zV (P:=P) h (ay n) hb aQ (.inl ⟨rfl,rfl⟩);refine⟨?_,h2,h3⟩;rw[hy,hN];simp[Instr.sliceAt,Instr.sureAddr,run_underlying hT,h1,qH hz vD]
 have cutR:∀(t:Ty) (z:Nat) (ad ad':Option Addr) (len' cap':Nat) (vs:List Value) (l:List t.den) (b:Nat×Nat),z=t.size->Ib (s.env w g β) ad vs->bI (dA (s.env w g β) t) vs l->b.1<=b.2->b.2<=l.length->
   (∀bb off,ad=av ⟨bb,off,aD⟩->b.1 < b.2->ad'=av ⟨bb,off+b.1*z,aD⟩)->(b.1 < b.2->ad'.isSome=aZ)->len'=b.2 - b.1->len'<=cap'->VS (s.env w g β) (.d (.slice t) (cut l b.1 (b.2 - b.1))) (.slice ad' len' cap'):=by
  intro t z ad ad' len' cap' vs l b hz hr hc h1 h2 aVM sa hlen hle;subst hz hlen;have asi:(cut l b.1 (b.2 - b.1)).length=b.2 - b.1:=GP ak;refine⟨_,?_,rfl⟩;simp only[V,dA];refine⟨ad',cap',(vs.drop (b.1*t.size)).take ((b.2 - b.1)*t.size),by rw[asi],ak,by rw[asi];intro hp;exact sa ak,?_,Pc hc b.1 _⟩;intro i v hi;rw[dD]at hi;split at hi
  ·rename_i aYQ;rw[gK]at hi;obtain⟨bb,off,e,hh⟩:=hr _ v hi;have iA:b.1 < b.2:=by
    rcases rh b.1 b.2 with h' | h'
    ·exact h'
    ·rw[lE h',ou]at aYQ;omega
   exact⟨bb,_,aVM bb off e iA,by rw[fy];exact hh⟩
  ·cases hi
 unfold Le at he;split at he
 ·rename_i st nA;rw[nA]at hx;have e1:=Ll hx;obtain⟨h1,h2⟩:=aH.1 he;obtain⟨b,h3,h4⟩:=ax.1 h2;obtain rfl:=az.1 h4;split at h1 <;> try (cases h1;done)
  rename_i hT;obtain⟨q1,q2,q3⟩:=zV (P:=P) h (ay _) h3 aQ (.inl ⟨rfl,rfl⟩);refine no (by rw[nA];rfl) λhN=> ?_
  subst hN;refine fin (.string (st.extract b.1 b.2)) ?_ (ajv _)
  rw[e1];simp[Instr.sliceAt,Instr.slice,run_underlying hT,q1]
 ·rename_i t l hl;rw[hl]at hx;obtain⟨ad,cap,vs,hy,aEa,sa,uc,xL⟩:=vY hx;obtain⟨h1,h2⟩:=aH.1 he;obtain⟨b,h3,h4⟩:=ax.1 h2;obtain rfl:=az.1 h4;split at h1 <;> try (cases h1;done)
  rename_i z XA Vo;obtain⟨e,hT,hz,vD⟩:=qe XA Vo;have aAQ:z=t.size:=by simpa using h1
  obtain⟨cap',q1,q2,q3,q4,_,_⟩:=sl e z ad _ cap b (by rw[hl];rfl) hT hz vD hy aEa h3;refine fin _ q1 ?_
  rw[show aoD mx (.d (.slice t) (cut l b.1 (b.2 - b.1)))= .d (.slice t) (cut l b.1 (b.2 - b.1)) by cases mx <;> rfl];refine cutR t z ad _ _ _ vs l b aAQ uc xL q2 q3 ?_ ?_ rfl ak
  ·intro bb off e1 iA;rw[if_neg ak,e1];simp[fU]
  ·intro iA;rw[if_neg ak];have:=sa ak;cases ad <;> simp_all
 ·rename_i hl;rw[hl]at hx;have hy:=mu hx;obtain⟨h1,h2⟩:=aH.1 he;obtain⟨b,h3,h4⟩:=ax.1 h2;obtain rfl:=az.1 h4;split at h1 <;> try (cases h1;done)
  rename_i z XA Vo;obtain⟨e,hT,hz,vD⟩:=qe XA Vo;obtain⟨cap',q1,q2,q3,q4,q6,q5⟩:=sl e z aD 0 0 b (by rw[hl];rfl) hT hz vD hy (ay _) h3;have Ux:b.1=0:=ak;have ZF:b.2=0:=ak;have ZG:cap'=0:=ak;refine fin _ q1 ?_
  rw[show aoD mx .dy= .dy by cases mx <;> rfl,Ux,ZF,ZG];exact⟨_,by simp[V],rfl⟩
 ·rename_i id ver p c i len hl;rw[hl]at hx;obtain⟨ad,cap,hy,aEa,sa,abL,gb⟩:=tJ hx;obtain⟨r,aHf,he⟩:=ax.1 he;obtain⟨h1,h2⟩:=aH.1 he;obtain⟨b,h3,h4⟩:=ax.1 h2;obtain rfl:=az.1 h4;split at h1 <;> try (cases h1;done)
  rename_i z XA Vo;obtain⟨e,hT,hz,vD⟩:=qe XA Vo;have aAQ:z=r.2.1.size:=by simpa using h1
  obtain⟨cap',q1,q2,q3,q4,q6,q5⟩:=sl e z ad _ cap b (by rw[hl];rfl) hT hz vD hy aEa h3;obtain⟨p',aLA,ZI⟩:∃p',aoD mx (.bE id ver p (c+b.1*r.2.1.size) (i+b.1) (b.2 - b.1))= .bE id ver p' (c+b.1*r.2.1.size) (i+b.1) (b.2 - b.1)/\(p'=[]->p=[]/\mx=aD):=by
   cases mx with
   |none=>exact⟨p,rfl,λh=>⟨h,rfl⟩⟩
   |some m=>exact⟨p++ [.arr],rfl,λh=>by simp at h⟩
  refine fin _ q1 ?_
  rw[aLA];refine⟨_,?_,rfl⟩;simp only[V];refine⟨_,_,rfl,ak,?_,abL,λhc=> ?_⟩
  ·intro iA;rw[if_neg ak];have:=sa ak;cases ad <;> simp_all
  ·have gb:=gb hc;cases hp:β id with
   |none=>
    have hp':(s.env w g β).β id=aD:=hp;rw[hp']at gb ⊢;simp only at gb ⊢;obtain⟨rfl,rfl,rfl⟩:=gb;have ZG:cap'=0:=ak;refine⟨by simp,ak,ak⟩
   |some pl=>
    have hp':(s.env w g β).β id=av pl:=hp;rw[hp']at gb ⊢;simp only at gb ⊢;refine⟨λhh=> ?_,λaWk aM7=> ?_⟩
    ·by_cases aQ2:cap'=b.1
     ·rw[if_pos aQ2];have aUW:b.1=0:=ak;rw[aUW,ou,cK];exact gb.1 (.inr ak)
     ·rw[if_neg aQ2,gb.1 ak,<-aAQ];simp[fU]
    ·obtain⟨e1,e2⟩:=ZI aWk;have:=gb.2 e1 ak;have:=q5 e2;omega
 ·rename_i id ver p n hl;rw[hl]at hx;obtain⟨ad,hy,abL,gb⟩:=xk hx;obtain⟨r,aHf,he⟩:=ax.1 he;obtain⟨h1,h2⟩:=aH.1 he;obtain⟨h5,h6⟩:=b8.1 h2;obtain⟨b,h3,h4⟩:=ax.1 h6;obtain rfl:=az.1 h4;split at h1 <;> try (cases h1;done)
  rename_i z m XA Vo;obtain⟨e,hT,hz,vD⟩:=As XA Vo;have aAQ:z=r.2.1.size:=by simpa using h1
  rw[Vo,eo]at h3;refine no (by rw[hl];rfl) λhN=> ?_
  obtain⟨q1,q2,q3⟩:=ar e z m ad b hN hT hz vD hy h3;subst hN;obtain⟨fr,c0,dh,_⟩:=V9 rfl h.bT aHf;obtain⟨pl,hp,aAE⟩:=gb ⟨fr,c0,dh⟩;refine fin _ q1 ⟨_,?_,rfl⟩;simp only[aoD,V];refine⟨_,_,rfl,ak,λ_=>rfl,abL,λ_=> ?_⟩;rw[hp];simp only;refine⟨λhh=> ?_,λaWk=>by simp at aWk⟩;rw[aAE];by_cases aQ2:m=b.1
  ·have aUW:b.1=0:=ak;rw[if_pos aQ2,aUW,ou,cK]
  ·rw[if_neg aQ2,<-aAQ,fU]
 ·rename_i n t l hl;rw[hl]at hx;obtain⟨bb,off,vs,hy,uc,hR⟩:=yi hx;obtain⟨h1,h2⟩:=aH.1 he;obtain⟨b,h3,h4⟩:=ax.1 h2;obtain rfl:=az.1 h4;split at h1 <;> try (cases h1;done)
  rename_i z m XA Vo;obtain⟨e,hT,hz,vD⟩:=As XA Vo;simp only[au,dK]at h1;obtain⟨aAQ,rfl⟩:=h1;refine no (by rw[hl];rfl) λhN=> ?_
  obtain⟨q1,q2,q3⟩:=ar e z m _ b hN hT hz vD hy h3;subst hN;simp only[dA]at hR;obtain⟨hlen,xL⟩:=hR;refine fin _ q1 (cutR t z (av ⟨bb,off,aD⟩) _ _ _ vs l b aAQ uc xL q2 ak ?_ (λ_=>rfl) rfl ak);intro bb' off' e1 iA;simp only[aA,Addr.mk.injEq,jw]at e1;obtain⟨rfl,rfl⟩:=e1;rw[if_neg ak,fU]
 ·simp only[aw]at he
end
end Go.Ab
namespace Go.Ab
section
variable {P:aT} {C:Ctx} {g:Nat->np} {β:Id->Option Pl} {s:AS} {a:Act} {w:cd} {o:Oper}
theorem abU(h:Inv C g β s a w){T:TypeId}{x y:bU}(ho:o.op= .indexAddr T x y){i:Int}(hi:(asInt (s.ev y)).eval=av i){v:aC}(he:(ud P s T (s.ev x) i).eval=av v):gr P o a w (jf C (s.put o.dst v)):=by
 have hx:=h.ev x;obtain⟨k,hy⟩:=BG (h.ev y) hi;have fin:∀z,(Instr.indexAt T (a.eval x) (a.eval y)).run P w= .ok z w->VS (s.env w g β) v z->gr P o a w (jf C (s.put o.dst v)):=by intro z h1 h2;exact h.value h2 (eK (f:=Instr.indexAt T (a.eval x) (a.eval y)) (by simp only[execOp,ho]) h1)
 have sl:∀(e:TypeId) (z:Nat) (ad:Addr) (len cap:Nat),P.underlying T=av (.slice e)->P.cellsOf e=z->0 < z->a.eval x= .slice (av ad) len cap->0<=i/\i < (len:Int)->
   (Instr.indexAt T (a.eval x) (a.eval y)).run P w= .ok (.pointer (av (ad.add (i.toNat*z)))) w:=by
  intro e z ad len cap hT hz vD hv hb;rw[hv,hy];simp[Instr.indexAt,asIntOf,run_underlying hT,hb,qH hz vD]
 have ar:∀(e:TypeId) (z n:Nat) (ad:Addr),P.underlying T=av (.array n e)->P.cellsOf e=z->0 < z->a.eval x= .pointer (av ad)->0<=i/\i < (n:Int)->
   (Instr.indexAt T (a.eval x) (a.eval y)).run P w= .ok (.pointer (av (ad.add (i.toNat*z)))) w:=by
  intro e z n ad hT hz vD hv hb;rw[hv,hy];simp[Instr.indexAt,Instr.sureAddr,asIntOf,run_underlying hT,hb,qH hz vD]
 have elt:∀(t:Ty) (z:Nat) (bb off:Nat) (vs:List Value) (l:List t.den),z=t.size->Ib (s.env w g β) (av ⟨bb,off,aD⟩) vs->bI (dA (s.env w g β) t) vs l->0<=i/\i < (l.length:Int)->
   VS (s.env w g β) (.dV t (nth t l i.toNat)) (.pointer (av ⟨bb,off+i.toNat*z,aD⟩)):=by
  intro t z bb off vs l hz hr hc hb;subst hz;have iA:i.toNat < l.length:=ak;rw[ac1 iA];obtain⟨hp,_⟩:=To hc iA;refine⟨_,?_,rfl⟩;simp only[V];refine⟨_,_,_,rfl,λj v hj=> ?_,hp⟩;rw[dD]at hj;split at hj
  ·rw[gK]at hj;obtain⟨b',o',e,hh⟩:=hr _ v hj;simp only[aA,Addr.mk.injEq,jw]at e;obtain⟨rfl,rfl⟩:=e;exact⟨_,_,rfl,by rw[fy];exact hh⟩
  ·cases hj
 unfold ud at he;split at he
 ·rename_i t l hl;rw[hl]at hx;obtain⟨ad,cap,vs,hv,aEa,sa,uc,xL⟩:=vY hx;obtain⟨h1,h2⟩:=aH.1 he;obtain⟨h3,h4⟩:=b8.1 h2;obtain rfl:=az.1 h4;simp only[bf]at h3;split at h1 <;> try (cases h1;done)
  rename_i z XA Vo;obtain⟨e,hT,hz,vD⟩:=qe XA Vo;have aAQ:z=t.size:=by simpa using h1
  have hlen:=bI.length (λc x hx=>dA.size hx) xL;have iA:i.toNat < l.length:=ak;have h0:0 < vs.length:=by rw[hlen];exact Nat.mul_pos ak ak
  obtain⟨bb,off,e1,_⟩:=uc 0 vs[0] (by simp[h0]);subst e1;have:=sl e z _ _ cap hT hz vD hv h3;rw[fU]at this;exact fin _ this (elt t z bb off vs l aAQ uc xL h3)
 ·rename_i n t l hl;rw[hl]at hx;obtain⟨bb,off,vs,hv,uc,hR⟩:=yi hx;obtain⟨h1,h2⟩:=aH.1 he;obtain⟨h3,h4⟩:=b8.1 h2;obtain rfl:=az.1 h4;simp only[bf]at h3;split at h1 <;> try (cases h1;done)
  rename_i z m XA Vo;obtain⟨e,hT,hz,vD⟩:=As XA Vo;simp only[au,dK]at h1;obtain⟨aAQ,rfl⟩:=h1;simp only[dA]at hR;have:=ar e z m _ hT hz vD hv h3;rw[fU]at this;exact fin _ this (elt t z bb off vs l aAQ uc hR.2 (by rw[hR.1];exact h3))
 ·rename_i id ver p c j len hl;rw[hl]at hx;obtain⟨ad,cap,hv,aEa,sa,abL,gb⟩:=tJ hx;obtain⟨r,aHf,he⟩:=ax.1 he;obtain⟨h1,h2⟩:=aH.1 he;obtain⟨h3,h4⟩:=b8.1 h2;obtain rfl:=az.1 h4;simp only[bf]at h3;split at h1 <;> try (cases h1;done)
  rename_i z XA Vo;obtain⟨e,hT,hz,vD⟩:=qe XA Vo;have aAQ:z=r.2.1.size:=by simpa using h1
  have hs:=sa ak;obtain⟨ad',rfl⟩:=bR.1 hs;refine fin _ (sl e z ad' len cap hT hz vD hv h3) ⟨_,?_,rfl⟩;simp only[V];refine⟨_,rfl,abL,λhc=> ?_⟩;have gb:=gb hc;cases hp:β id with
  |none=>
   have hp':(s.env w g β).β id=aD:=hp;rw[hp']at gb;exact absurd gb.1 (by simp)
  |some pl=>
   have hp':(s.env w g β).β id=av pl:=hp;rw[hp']at gb;have e1:=gb.1 (.inl ak);simp only[aA]at e1;exact⟨pl,hp,by rw[e1,fU,aAQ]⟩
 ·rename_i id ver p n hl;rw[hl]at hx;obtain⟨ad,hv,abL,gb⟩:=xk hx;obtain⟨h1,h2⟩:=aH.1 he;obtain⟨h3,h4⟩:=b8.1 h2;obtain rfl:=az.1 h4;simp only[bf]at h3;split at h1 <;> try (cases h1;done)
  rename_i z m XA Vo;obtain⟨e,hT,hz,vD⟩:=As XA Vo;rw[Vo,eo]at h3;refine fin _ (ar e z m ad hT hz vD hv h3) ⟨_,?_,rfl⟩;simp only[V];refine⟨_,rfl,abL,λhc=> ?_⟩;obtain⟨pl,hp,aAE⟩:=gb hc;exact⟨pl,hp,by rw[aAE,fU,XA,eo]⟩
 ·simp only[aw]at he
theorem Ir{T:TypeId}{f off:Nat}{ft:TypeId}(h:fieldInfo P T f=av (off,ft)):∃fs fd,P.underlying T=av (.struct fs)/\fs[f]? =av fd/\fd.offset=off/\fd.type=ft:=by
 unfold fieldInfo at h;split at h
 ·rename_i fs hT;split at h
  ·rename_i fd hf;simp only[aA,cT]at h;exact⟨fs,fd,hT,hf,h.1,h.2⟩
  ·cases h
 ·cases h
theorem Hr{E:Env}:∀(x:aC) (f off:Nat) (v:aC) (cs:List Value),V E x cs->partOf x f=av (off,v)->V E v ((cs.drop off).take v.size)/\off+v.size<=cs.length:=by
 intro x f
 induction f generalizing x with
 |zero=>
  intro off v cs hx h;cases x with
  |d t y=>
   cases t <;> simp only[partOf,reduceCtorEq]at h;rename_i ta tb;simp only[aA,cT]at h;obtain⟨rfl,rfl⟩:=h;simp only[V,dA]at hx ⊢;obtain⟨ca,cb,rfl,ha,hb⟩:=hx;have:=ha.size;simp only[aC.size,aG,ai,aR];rw[lQ this];exact⟨ha,ak⟩
  |pr b c=>
   simp only[partOf,aA,cT]at h;obtain⟨rfl,rfl⟩:=h;simp only[V]at hx;obtain⟨ca,cb,rfl,ha,hb⟩:=hx;have:=ha.size;simp only[aG,ai,aR];rw[lQ this];exact⟨ha,ak⟩
  |_=>simp only[partOf,reduceCtorEq]at h
 |succ f ih=>
  intro off v cs hx h;have second:∀(ca cb:List Value) (n:Nat) (b:aC),cs=ca++cb->ca.length=n->V E b cb->(match partOf b f with | some (o,v)=>av (n+o,v) | none=>aD)=av (off,v)->V E v ((cs.drop off).take v.size)/\off+v.size<=cs.length:=by
   intro ca cb n b e hl hb hh;cases hp:partOf b f with
   |none=>rw[hp]at hh;cases hh
   |some r=>
    obtain⟨o',v'⟩:=r;rw[hp]at hh;simp only[aA,cT]at hh;obtain⟨rfl,rfl⟩:=hh;obtain⟨h1,h2⟩:=ih b o' v' cb hb hp;subst e;rw[<-hl,kK,dS ak,aY,Nat.add_sub_cancel_left];exact⟨h1,by simp only[ai];omega⟩
  cases x with
  |d t y=>
   cases t with
   |pair ta tb=>
    simp only[partOf]at h;simp only[V,dA]at hx;obtain⟨ca,cb,e,ha,hb⟩:=hx;exact second ca cb ta.size (.d tb y.2) e ha.size (by simpa only[V]using hb) h
   |_=>simp only[partOf,reduceCtorEq]at h
  |pr b c=>
   simp only[partOf]at h;simp only[V]at hx;obtain⟨ca,cb,e,ha,hb⟩:=hx;exact second ca cb b.size c e ha.size hb h
  |_=>simp only[partOf,reduceCtorEq]at h
theorem abA(h:Inv C g β s a w){T:TypeId}{x:bU}{f:Nat}(ho:o.op= .fieldAddr T x f){v:aC}(he:(G2 P T (s.ev x) f).eval=av v):gr P o a w (jf C (s.put o.dst v)):=by
 have hx:=h.ev x;unfold G2 at he;split at he
 ·rename_i off ft hf;obtain⟨fs,fd,hT,aU0,rfl,rfl⟩:=Ir hf;obtain⟨h1,h2⟩:=aH.1 he;have hz:P.cellsOf fd.type≠0:=by simpa using h1
  have run:∀bb n,a.eval x= .pointer (av ⟨bb,n,aD⟩)->(Instr.fieldAt T (a.eval x) f).run P w= .ok (.pointer (av ⟨bb,n+fd.offset,aD⟩)) w:=by intro bb n hy;rw[hy];simp[Instr.fieldAt,run_underlying hT,aU0,Instr.sureAddr,fieldPlace,qH (P:=P) (e:=fd.type) rfl ak,hz,fU]
  have runS:∀ad,a.eval x= .pointer (av ad)->(Instr.fieldAt T (a.eval x) f).run P w= .ok (.pointer (av (ad.add fd.offset))) w:=by intro ad hy;rw[hy];simp[Instr.fieldAt,run_underlying hT,aU0,Instr.sureAddr,fieldPlace,qH (P:=P) (e:=fd.type) rfl ak,hz]
  have fin:∀z,(Instr.fieldAt T (a.eval x) f).run P w= .ok z w->VS (s.env w g β) v z->gr P o a w (jf C (s.put o.dst v)):=by intro z h1 h2;exact h.value h2 (eK (f:=Instr.fieldAt T (a.eval x) f) (by simp only[execOp,ho]) h1)
  split at h2
  ·rename_i id ver p n hl;rw[hl]at hx;obtain rfl:=az.1 h2;obtain⟨ad,hy,abL,gb⟩:=xk hx;refine fin _ (runS ad hy) ⟨_,?_,rfl⟩;simp only[V];refine⟨_,rfl,abL,λhc=> ?_⟩;obtain⟨pl,hp,aAE⟩:=gb hc;exact⟨pl,hp,by rw[aAE,fU]⟩
  ·rename_i t y hl;rw[hl]at hx;obtain⟨bb,off,vs,hy,uc,hR⟩:=yi hx;split at h2
   ·rename_i o' t' y' hp;obtain⟨h3,h4⟩:=aH.1 h2;obtain rfl:=az.1 h4;have h3:fd.offset=o':=by simpa using h3
    obtain⟨hV,hle⟩:=Hr (.d t y) f o' (.d t' y') vs (by simpa only[V]using hR) hp;refine fin _ (run bb off hy) ⟨_,?_,rfl⟩;simp only[V]at hV ⊢;refine⟨_,_,_,rfl,λj u hj=> ?_,hV⟩;rw[dD]at hj;split at hj
    ·rw[gK]at hj;obtain⟨b',o'',e,hh⟩:=uc _ u hj;simp only[aA,Addr.mk.injEq,jw]at e;obtain⟨rfl,rfl⟩:=e;exact⟨_,_,rfl,by rw[h3,fy];exact hh⟩
    ·cases hj
   ·simp only[aw]at h2
  ·rename_i t q hl;obtain⟨y,e,h5⟩:=yJ.1 h2;subst e;rw[hl]at hx;have hx:=R1 hx;obtain⟨bb,off,vs,hy,uc,hR⟩:=yi hx;split at h5
   ·rename_i o' t' y' hp;obtain⟨h3,h4⟩:=aH.1 h5;obtain rfl:=az.1 h4;have h3:fd.offset=o':=by simpa using h3
    obtain⟨hV,hle⟩:=Hr (.d t y) f o' (.d t' y') vs (by simpa only[V]using hR) hp;refine fin _ (run bb off hy) ⟨_,?_,rfl⟩;simp only[V]at hV ⊢;refine⟨_,_,_,rfl,λj u hj=> ?_,hV⟩;rw[dD]at hj;split at hj
    ·rw[gK]at hj;obtain⟨b',o'',e,hh⟩:=uc _ u hj;simp only[aA,Addr.mk.injEq,jw]at e;obtain⟨rfl,rfl⟩:=e;exact⟨_,_,rfl,by rw[h3,fy];exact hh⟩
    ·cases hj
   ·simp only[aw]at h5
  ·simp only[aw]at h2
 ·simp only[aw]at he
theorem afG{x:aC}{f:Nat}{r:Nat×aC}(h:partOf x f=av r):x.agg=aZ/\x.fA=aZ:=by
 cases x with
 |d t y=>cases t <;> cases f <;> simp[partOf]at h <;> exact⟨rfl,rfl⟩
 |pr b c=>exact⟨rfl,rfl⟩
 |_=>cases f <;> simp[partOf]at h
theorem JN{T:TypeId}{v:aC}(h:fits P T v=aZ):PR P T v.agg=aZ/\P.cellsOf T=v.size/\v.fA=aZ:=by unfold fits at h;simp only[au,dK]at h;exact⟨h.2,h.1.2,h.1.1⟩
theorem atL(h:Inv C g β s a w){T:TypeId}{x:bU}{f:Nat}(ho:o.op= .field T x f){v:aC}(he:(akG P T (s.ev x) f).eval=av v):gr P o a w (jf C (s.put o.dst v)):=by
 have hx:=h.ev x;unfold akG at he;split at he
 ·rename_i off ft o' v' hf hp;obtain⟨fs,fd,hT,aU0,rfl,rfl⟩:=Ir hf;obtain⟨h1,h2⟩:=aH.1 he;obtain rfl:=az.1 h2;simp only[au,dK]at h1;obtain⟨rfl,abN⟩:=h1;obtain⟨QO,atX⟩:=afG hp;obtain⟨cs,hV,hO⟩:=hx.fA atX;rw[QO]at hO;have hy:a.eval x= .agg cs.toArray:=hO;obtain⟨hVp,hle⟩:=Hr _ _ _ _ cs hV hp;obtain⟨q1,q2,q3⟩:=JN abN;obtain⟨y,hr,hOy⟩:=yX (w:=w) q1 q2 (λhh=>aC.aru hh) hle;refine h.value (VS.of hVp hOy) (eK (f:=Instr.field T (a.eval x) f) (by simp only[execOp,ho]) ?_);rw[hy];simp[Instr.field,run_underlying hT,aU0,asAgg,hr]
 ·simp only[aw]at he
theorem aub(h:Inv C g β s a w){T:TypeId}{x y:bU}(ho:o.op= .index T x y){i:Int}(hi:(asInt (s.ev y)).eval=av i){v:aC}(he:(ak2 P T (s.ev x) i).eval=av v):gr P o a w (jf C (s.put o.dst v)):=by
 have hx:=h.ev x;obtain⟨k,hy⟩:=BG (h.ev y) hi;have fin:∀z,(Instr.index T (a.eval x) (a.eval y)).run P w= .ok z w->VS (s.env w g β) v z->gr P o a w (jf C (s.put o.dst v)):=by intro z h1 h2;exact h.value h2 (eK (f:=Instr.index T (a.eval x) (a.eval y)) (by simp only[execOp,ho]) h1)
 unfold ak2 at he;split at he
 ·rename_i n t l m e hl hT;rw[hl]at hx;obtain⟨h1,h2⟩:=aH.1 he;obtain⟨h3,h4⟩:=b8.1 h2;obtain rfl:=az.1 h4;simp only[au,dK,bf]at h1 h3;obtain⟨rfl,abN⟩:=h1;obtain⟨q1,q2,q3⟩:=JN abN;obtain⟨cs,hV,hO⟩:=hx.fA rfl;have aZm:a.eval x= .agg cs.toArray:=hO;simp only[V,dA]at hV;obtain⟨hlen,xL⟩:=hV;have iA:i.toNat < l.length:=ak;obtain⟨hp,hle⟩:=To xL iA;have q2':P.cellsOf e=t.size:=q2;have q1':PR P e t.agg=aZ:=q1;obtain⟨y',hr,hOy⟩:=yX (w:=w) q1' q2' yZ hle;obtain⟨j,hj,_⟩:=AI q1';rw[<-ac1 iA]at hp;refine fin y' ?_ (VS.of (by simpa only[V]using hp) hOy)
  rw[aZm,hy];have uW:=run_sizeOf hj w;rw[<-oC hj,q2']at uW;simp[Instr.index,asIntOf,run_underlying hT,h3,uW,hr]
 ·rename_i st hl hT;rw[hl]at hx;obtain⟨h3,h4⟩:=b8.1 he;obtain rfl:=az.1 h4;simp only[bf]at h3;have e1:=Ll hx;have iA:i.toNat < st.data.toList.length:=by
   have:st.size=st.data.toList.length:=by rw[c9];rfl
   omega
  have aVX:st[i.toNat]? =av (st.data.toList[i.toNat]):=by have hlt':i.toNat < st.size:=ak;rw[getElem?_pos st i.toNat hlt'];rfl
  refine fin (.int .u8 ((st.data.toList.getD i.toNat 0).toNat:Int)) ?_ (mM _ _)
  rw[e1,hy];simp[Instr.index,asIntOf,run_underlying hT,h3.1,aVX,aJ,cj iA]
 ·simp only[aw]at he
theorem aQd{E:Env}:∀(c:aC) (vs:List Value) (i:Nat) (v:aC),VC E c vs->c.list[i]? =av v->∃y,vs[i]? =av y/\VS E v y:=by
 intro c
 induction c with
 |cons x y _ ih=>
  intro vs i v hc hi;simp only[VC]at hc;obtain⟨u,vs',cs,rfl,hV,hO,hc⟩:=hc;cases i with
  |zero=>
   simp only[aC.list,gF,aA]at hi;subst hi;exact⟨u,rfl,VS.of hV hO⟩
  |succ i=>
   simp only[aC.list,nq]at hi ⊢;exact ih vs' i v hc hi
 |_=>intro vs i v hc hi;simp[aC.list]at hi
theorem aky(h:Inv C g β s a w){x:bU}{i:Nat}(ho:o.op= .extract x i){v:aC}(he:(Out.opt ((s.ev x).list[i]?)).eval=av v):gr P o a w (jf C (s.put o.dst v)):=by
 have hx:=h.ev x;have he:=lf.1 he;cases hc:s.ev x with
 |cons p q=>
  rw[hc]at hx he;obtain⟨vs,hy,hVC⟩:=hx;obtain⟨y,hv,hVS⟩:=aQd _ vs i v hVC he;refine h.value hVS (eK (f:=Instr.extract (a.eval x) i) (by simp only[execOp,ho]) ?_);rw[hy];simp[Instr.extract,hv]
 |_=>rw[hc]at he;simp[aC.list]at he
theorem awV(h:Inv C g β s a w):∀(l:List bU),BL (tT s l)=aZ->VC (s.env w g β) (tT s l) (l.map a.eval)
 |[],_=>by simp[tT,VC]
 |x::xs,hc=>by simp only[tT,BL,au]at hc;obtain⟨cs,hV,hO⟩:=(h.ev x).fA hc.1;simp only[tT,VC,bY];exact⟨_,_,cs,rfl,hV,hO,awV h xs hc.2⟩
theorem af2(h:Inv C g β s a w){f:fV}{first caps:Array bU}(ho:o.op= .makeFunc (.func f) first caps)(h1:first.isEmpty=aZ)(h2:BL (tT s caps.toList)=aZ):
  gr P o a w (jf C (s.put o.dst (.fn f (tT s caps.toList)))):=by
 have hf:first= #[]:=by simpa using h1
 refine h.value (x:= .func (.func f) #[] (caps.toList.map a.eval).toArray) ⟨_,?_,rfl⟩ (eK (f:=Instr.makeFunc (.func f) (first.map a.eval) (caps.map a.eval)) (by simp only[execOp,ho]) ?_)
 ·simp only[V];exact⟨_,rfl,awV h _ h2⟩
 ·subst hf;have:caps.map a.eval=(caps.toList.map a.eval).toArray:=by apply ig;simp
  simp[Instr.makeFunc,this]
theorem awm(h:Inv C g β s a w){T:TypeId}{x:bU}(ho:o.op= .sliceToArrayPointer T x){s':AS}(he:(QA P s o.dst T (s.ev x)).eval=av s'):gr P o a w (jf C s'):=by
 have hx:=h.ev x;unfold QA at he;split at he
 ·rename_i n e hT;split at he
  ·rename_i t ht;obtain⟨h1,h2⟩:=aH.1 he;obtain⟨l,h3,h4⟩:=ax.1 h2;obtain⟨h5,h6⟩:=b8.1 h4;obtain rfl:=az.1 h6;simp only[au,cS,dK,ik,bf]at h1 h5;obtain⟨⟨hz,hn⟩,aRs⟩:=h1;obtain⟨g1,i1,e1,t1,cs,hR,hO⟩:=CH h hx h3;simp only[dA]at hR;obtain⟨ad,cap,vs,rfl,aEa,sa,uc,xL⟩:=hR;have hO': [Value.slice ad (ag l) cap]=[a.eval x]:=hO;have hy:a.eval x= .slice ad (ag l) cap:=by simpa using hO'.symm
   have hlen:=bI.length (λc x hx=>dA.size hx) xL;have h0:0 < vs.length:=by rw[hlen];exact Nat.mul_pos ak ak
   obtain⟨bb,off,e2,_⟩:=uc 0 vs[0] (by simp[h0]);subst e2;refine .inl ⟨.pointer (av ⟨bb,off,aD⟩),w,?_,g1,β,i1.put o.dst ⟨_,?_,rfl⟩⟩
   ·refine eK (f:=Instr.arrayAt T (a.eval x)) (by simp only[execOp,ho]) ?_
    rw[hy];have:¬ag l < n:=ak;simp[Instr.arrayAt,run_underlying hT,this]
   ·simp only[V];refine⟨bb,off,vs.take (n*t.size),rfl,λj u hj=> ?_,?_⟩
    ·rw[dD]at hj;split at hj
     ·exact uc j u hj
     ·cases hj
    ·simp only[dA];exact⟨by simp;omega,bI.take (λ_ _ hx=>hx.size) n xL⟩
  ·simp only[aw]at he
 ·simp only[aw]at he
end
end Go.Ab
namespace Go.Ab
theorem ace{α:Type}{f:α->α->Bool}(hf:∀x y,f x y=aZ->x=y):∀ {xs ys:List α},ni f xs ys=aZ->xs=ys
 |[],[],_=>rfl
 |x::xs,y::ys,h=>by simp only[ni,au]at h;rw[hf _ _ h.1,ace hf h.2]
 |[],_::_,h=>by simp[ni]at h
 |_::_,[],h=>by simp[ni]at h
theorem beq_eq:∀(t:Ty) (x y:t.den),t.comp=aZ->t.beq x y=aZ->x=y
 | .int _,x,y,_,h=>by simpa[Ty.beq]using h
 | .bool,x,y,_,h=>by simpa[Ty.beq]using h
 | .str,x,y,_,h=>by
  have h:(x:ByteArray).toList=(y:ByteArray).toList:=by simpa[Ty.beq]using h
  rw[Go.ByteArray.toList_eq,Go.ByteArray.toList_eq]at h;exact ByteArray.ext (Array.toList_inj.1 h)
 | .slice _,_,_,h,_=>by simp[Ty.comp]at h
 | .unit,_,_,_,_=>rfl
 | .pair a b,x,y,hc,h=>by simp only[Ty.comp,au]at hc;simp only[Ty.beq,au]at h;exact Prod.ext (beq_eq a _ _ hc.1 h.1) (beq_eq b _ _ hc.2 h.2)
 | .arr _ t,x,y,hc,h=>ace (λx y=>beq_eq t x y hc) h
def Plain(c:Value):Prop:=∀n,Instr.sameBits n c c=aZ
theorem dA.plain{E:Env}:∀ {t:Ty} {cs:List Value} {x:t.den},t.comp=aZ->dA E t cs x->∀c∈cs,Plain c
 | .int _,_,_,_,h,c,hc,n=>by simp only[dA]at h;rw[h,bp]at hc;subst hc;cases n <;> simp[Instr.sameBits]
 | .bool,_,_,_,h,c,hc,n=>by simp only[dA]at h;rw[h,bp]at hc;subst hc;cases n <;> simp[Instr.sameBits]
 | .str,_,_,_,h,c,hc,n=>by simp only[dA]at h;rw[h,bp]at hc;subst hc;cases n <;> exact(Go.MapKept.bytes_beq _ _).2 rfl
 | .slice _,_,_,hc,_,_,_,_=>by simp[Ty.comp]at hc
 | .unit,_,_,_,h,c,hc,_=>by simp only[dA]at h;rw[h]at hc;cases hc
 | .pair a b,_,_,hp,h,c,hc,n=>by
  simp only[Ty.comp,au]at hp;simp only[dA]at h;obtain⟨ca,cb,rfl,ha,hb⟩:=h;rcases bD.1 hc with hc | hc
  ·exact dA.plain hp.1 ha c hc n
  ·exact dA.plain hp.2 hb c hc n
 | .arr _ t,_,_,hp,h,c,hc,n=>by simp only[dA]at h;exact bI.all (p:=Plain) (λc x hx v hv=>dA.plain (t:=t) hp hx v hv) h.2 c hc n
theorem dA.aQG{E:Env}:∀ {t:Ty} {cs cs':List Value} {x:t.den},t.comp=aZ->dA E t cs x->dA E t cs' x->cs=cs'
 | .int _,_,_,_,_,h,h'=>by simp only[dA]at h h';rw[h,h']
 | .bool,_,_,_,_,h,h'=>by simp only[dA]at h h';rw[h,h']
 | .str,_,_,_,_,h,h'=>by simp only[dA]at h h';rw[h,h']
 | .slice _,_,_,_,hc,_,_=>by simp[Ty.comp]at hc
 | .unit,_,_,_,_,h,h'=>by simp only[dA]at h h';rw[h,h']
 | .pair a b,_,_,_,hp,h,h'=>by simp only[Ty.comp,au]at hp;simp only[dA]at h h';obtain⟨ca,cb,rfl,ha,hb⟩:=h;obtain⟨ca',cb',rfl,ha',hb'⟩:=h';rw[dA.aQG hp.1 ha ha',dA.aQG hp.2 hb hb']
 | .arr _ t,cs,cs',x,hp,h,h'=>by
  simp only[dA]at h h';have key:∀(l:List t.den) (cs cs':List Value),bI (dA E t) cs l->bI (dA E t) cs' l->cs=cs':=by
   intro l
   induction l with
   |nil=>intro cs cs' h h';have h:cs=[]:=h;have h':cs'=[]:=h';rw[h,h']
   |cons x l ih=>
    intro cs cs' h h';obtain⟨c,r,rfl,hx,hr⟩:=h;obtain⟨c',r',rfl,hx',hr'⟩:=h';rw[dA.aQG (t:=t) hp hx hx',ih _ _ hr hr']
  exact key _ _ _ h.2 h'.2
theorem Fe.aQG{E:Env}{t:Ty}{v v':Value}{x:t.den}(hc:t.comp=aZ)(h:Fe E t v x)(h':Fe E t v' x):v=v':=by
 obtain⟨cs,h1,h2⟩:=h;obtain⟨cs',h1',h2'⟩:=h';have e:=dA.aQG hc h1 h1';subst e;unfold gI at h2 h2';cases ha:t.agg with
 |true=>rw[ha]at h2 h2';rw[h2,h2']
 |false=>
  rw[ha]at h2 h2';have h2:cs=[v]:=h2;have h2':cs=[v']:=h2';rw[h2]at h2';simpa using h2'
theorem Fe.same{E:Env}{t:Ty}{v:Value}{x:t.den}(hc:t.comp=aZ)(h:Fe E t v x):Instr.sameBits 10000 v v=aZ:=by
 obtain⟨cs,h1,h2⟩:=h;have hp:=dA.plain hc h1;unfold gI at h2;cases ha:t.agg with
 |true=>
  rw[ha]at h2;have h2:v= .agg cs.toArray:=h2;subst h2;simp only[Instr.sameBits,beq_self_eq_true,bF,dp];intro p hp';obtain⟨a,b⟩:=p;have:∀(l:List Value),(a,b)∈l.zip l->a∈l/\a=b:=by
   intro l
   induction l with
   |nil=>intro h;simp at h
   |cons y l ih=>
    intro h;simp only[List.zip_cons_cons,cv,cT]at h;rcases h with⟨rfl,rfl⟩ | h
    ·exact⟨aK,rfl⟩
    ·exact⟨aF _ (ih h).1,(ih h).2⟩
  obtain⟨hm,rfl⟩:=this _ hp';exact hp a (by simpa using hm) _
 |false=>
  rw[ha]at h2;have h2:cs=[v]:=h2;subst h2;exact hp v (by simp) _
theorem aCP{P:aT}{w:cd}{E:Env}{t:Ty}{v:Value}{x:t.den}(hc:t.comp=aZ)(h:Fe E t v x):(Instr.keyThatStays v v).run P w= .ok v w:=by unfold Instr.keyThatStays;rw[if_pos (h.same hc)];rfl
section
variable {P:aT} {w:cd} {E:Env}
theorem B2:∀(n:Nat) (T:TypeId) (t:Ty),uB P n T t=aZ->t.comp=aZ
 | 0,T,t,h=>by simp[uB]at h
 |n+1,T,t,h=>by
  simp only[uB]at h;split at h
  ·rfl
  ·rfl
  ·rfl
  ·rename_i m e m' t' hT;simp only[au]at h;exact B2 n e t' h.2
  ·rename_i t0 _ _ fs hT;simp only[au]at h;have key:∀(fl:List Field) (t:Ty) (off:Nat),Py P (uB P n) fl t off=aZ->t.comp=aZ:=by
    intro fl
    induction fl with
    |nil=>intro t off hc;cases t <;> first | rfl | (simp[Py]at hc;done)
    |cons f fl ih=>
     intro t off hc;cases t <;> first | (simp[Py]at hc;done) | skip
     rename_i ta tb;simp only[Py,au]at hc;simp only[Ty.comp,au];exact⟨B2 n _ _ hc.1.2,ih tb _ hc.2⟩
   exact key _ _ _ h.2
  ·cases h
theorem pX(em:Bool):∀(n:Nat) (T:TypeId) (t:Ty),uB P n T t=aZ->∀(d:Nat),n<=d->∀(v:Value) (x:t.den),Fe E t v x->(Instr.checkKey em d T v).run P w= .ok () w
 | 0,T,t,h,_,_,_,_,_=>by simp[uB]at h
 |n+1,T,t,h,0,hd,_,_,_=>ak
 |n+1,T,t,h,d+1,hd,v,x,⟨cs,hx,hv⟩=>by
  simp only[uB]at h;split at h
  ·rename_i hT;simp only[dA]at hx;have e1:cs=[v]:=hv;rw[hx]at e1;simp only[dB,jw]at e1;subst e1;simp[Instr.checkKey,run_underlying hT]
  ·rename_i hT;simp only[dA]at hx;have e1:cs=[v]:=hv;rw[hx]at e1;simp only[dB,jw]at e1;subst e1;simp[Instr.checkKey,run_underlying hT]
  ·rename_i hT;simp only[dA]at hx;have e1:cs=[v]:=hv;rw[hx]at e1;simp only[dB,jw]at e1;subst e1;simp[Instr.checkKey,run_underlying hT]
  ·rename_i m e m' t' hT;simp only[au,dK]at h;obtain⟨⟨⟨⟨rfl,aRs⟩,uW⟩,QO⟩,xL⟩:=h;simp only[dA]at hx;obtain⟨aV8,aVU⟩:=hx;have e1:v= .agg cs.toArray:=hv;subst e1;obtain⟨i,hi,ao5⟩:=AI QO;have hsz':=uW;rw[oC hi]at hsz';simp only[Instr.checkKey,cC,run_underlying hT,bP];simp only[Std.Legacy.Range.forIn_eq_forIn_range'];have hm:([:m]:Std.Legacy.Range).size=m:=by simp[Std.Legacy.Range.size]
   rw[hm];have asp:∀c z,dA E t' c z->c.length=t'.size:=λc z hz=>hz.size
   have bx:t'.agg=aQ->t'.size=1:=yZ
   have key:∀(k:Nat) (x:List t'.den) (j:Nat),x.length=k->bI (dA E t') (cs.drop (j*t'.size)) x->
     (forIn (List.range' j k) () λi __s=>(do
      let __do_lift <-sizeOf e
      let __do_lift <-part e cs.toArray (i*__do_lift)
      Instr.checkKey em d e __do_lift
      pure (ForInStep.yield ()):Sem (ForInStep Unit))).run P w= .ok () w:=by
    intro k
    induction k with
    |zero=>intro x j _ _;rfl
    |succ k ih=>
     intro x j hx hcx';cases x with
     |nil=>simp at hx
     |cons x0 xs=>
      have gx:=bI.get asp hcx' 0 (by simp);simp only[ou,aG,List.getElem_cons_zero]at gx;have lenx:((cs.drop (j*t'.size)).take t'.size).length=t'.size:=gx.size;have XA:t'.size≠0:=by simpa using aRs
      have aV4:j*t'.size+t'.size<=cs.length:=by simp only[bB,dG]at lenx;omega
      obtain⟨ux,h1,o1⟩:=yX (w:=w) QO uW bx (cs:=cs) (off:=j*t'.size) aV4;have h3:=pX em n e t' xL d ak ux x0 ⟨_,gx,o1⟩;have nx:bI (dA E t') (cs.drop ((j+1)*t'.size)) xs:=by have:=bI.drop asp 1 hcx';rw[gJ]at this;simpa[fe]using this
      have:=ih xs (j+1) (by simpa using hx) nx;rw[List.range'_succ,List.forIn_cons];simp only[cC,run_sizeOf hi,hsz',h1,h3,bP,ez];exact this
   exact(bu (λr:Result Unit=>r.andThen λ_ w'=>Sem.run P (pure ()) w') (key m x 0 aV8 (by simpa using aVU))).trans rfl
  ·rename_i t0 _ _ fs hT;simp only[au,cS]at h;obtain⟨nA,aQ7⟩:=h;have QO:t0.agg=aZ:=by cases hl:fs.toList <;> rw[hl]at aQ7 <;> cases t0 <;> first | rfl | (simp[Py]at aQ7;done)
   rw[QO]at hv;have e1:v= .agg cs.toArray:=hv;subst e1
   have key:∀(fl:List Field) (t:Ty) (off:Nat),Py P (uB P n) fl t off=aZ->∀(x:t.den),dA E t (cs.drop off) x->
     (forIn fl () λf __s=>(do
      if f.name≠ "_" then
       let __do_lift <-part f.type cs.toArray f.offset
       Instr.checkKey em d f.type __do_lift
       pure (ForInStep.yield ())
      else pure (ForInStep.yield ()):Sem (ForInStep Unit))).run P w= .ok () w:=by
    intro fl
    induction fl with
    |nil=>intro t off _ x _;rfl
    |cons f fl ih=>
     intro t off hc x hx;cases t <;> first | (simp[Py]at hc;done) | skip
     rename_i ta tb;simp only[Py,au,cS,dK,ik]at hc;obtain⟨⟨⟨⟨⟨⟨aWf,aNe⟩,hz⟩,uW⟩,QO⟩,xL⟩,aHg⟩:=hc;simp only[dA]at hx;obtain⟨xa,xb,ex,aUg,aWF⟩:=hx;have bx:ta.agg=aQ->ta.size=1:=yZ;have lx:xa.length=ta.size:=aUg.size;have sx1:(cs.drop off).take ta.size=xa:=by rw[ex];exact lQ lx
     have sx2:cs.drop (off+ta.size)=xb:=by rw[<-gJ,ex];exact lP lx
     have sx3:off+ta.size<=cs.length:=by have:=bu ag ex;simp only[dG,ai]at this;omega
     obtain⟨ux,h1,o1⟩:=yX (w:=w) QO uW bx (cs:=cs) (off:=off) sx3;rw[sx1]at o1;have h3:=pX em n f.type ta xL d ak ux x.1 ⟨_,aUg,o1⟩;have h4:=ih tb (off+ta.size) aHg x.2 (by rw[sx2];exact aWF);rw[List.forIn_cons];simp only[ne_eq,aWf,not_false_eq_true,bM,cC,aNe,h1,h3,bP,ez];exact h4
   have:=key fs.toList t0 0 aQ7 x (by simpa using hx);simp only[Instr.checkKey,cC,run_underlying hT,bP,Array.forIn_toList]at this ⊢;exact(bu (λr:Result Unit=>r.andThen λ_ w'=>Sem.run P (pure ()) w') this).trans rfl
  ·cases h
theorem Q1{K:TypeId}{kt vt:Ty}(hK:uB P depth K kt=aZ){v:Value}{x:kt.den}(hx:Fe E kt v x):∀(es:List gB) (l:List (kt.den×vt.den)) (i:Nat),Alike (Gj E kt vt) es l->
  ∃r,(Instr.findAsking K v es i).run P w= .ok r w/\match r with | none=>jz kt x l=aD | some (j,u)=>∃n e,jz kt x l=av n/\j=i+n/\es[n]? =av e/\u=e.val
 |[],[],i,_=>⟨aD,by simp[Instr.findAsking],rfl⟩
 |e::es,p::l,i,⟨he,hr⟩=>by
  have hx':=hx;obtain⟨c1,r1,o1⟩:=hx';obtain⟨c2,r2,o2⟩:=he.1;have heq:(Op.equal K v e.key).run P w= .ok (kt.beq x p.1) w:=xK E depth K kt hK 10000 fg c1 c2 x p.1 v e.key r1 r2 o1 o2;cases hb:kt.beq x p.1 with
  |true=>
   rw[hb]at heq;refine⟨av (i,e.val),by simp[Instr.findAsking,heq],0,e,by simp[jz,hb],rfl,rfl,rfl⟩
  |false=>
   rw[hb]at heq;obtain⟨r,h1,h2⟩:=Q1 hK hx es l (i+1) hr;refine⟨r,by simp[Instr.findAsking,heq,h1],?_⟩;cases r with
   |none=>simp only at h2 ⊢;simp[jz,hb,h2]
   |some u=>
    obtain⟨j,u⟩:=u;obtain⟨n,e',g1,g2,g3,g4⟩:=h2;exact⟨n+1,e',by simp[jz,hb,g1],ak,by simpa using g3,g4⟩
 |[],_::_,_,h=>h.elim
 |_::_,[],_,h=>h.elim
theorem ait{d:TypeDesc}{kt vt:Ty}{v:Value}{x:kt.den}(hd:∀u y,Fe E kt u y->Instr.sameNow d v u=av (kt.beq x y)):∀(es:List gB) (l:List (kt.den×vt.den)) (i:Nat),Alike (Gj E kt vt) es l->
  ∃r,Instr.findNow d v es i=av r/\match r with | none=>jz kt x l=aD | some (j,u)=>∃n e,jz kt x l=av n/\j=i+n/\es[n]? =av e/\u=e.val
 |[],[],i,_=>⟨aD,rfl,rfl⟩
 |e::es,p::l,i,⟨he,hr⟩=>by
  have h0:=hd e.key p.1 he.1;cases hb:kt.beq x p.1 with
  |true=>
   rw[hb]at h0;exact⟨av (i,e.val),by simp[Instr.findNow,h0],0,e,by simp[jz,hb],rfl,rfl,rfl⟩
  |false=>
   rw[hb]at h0;obtain⟨r,h1,h2⟩:=ait hd es l (i+1) hr;refine⟨r,by simp[Instr.findNow,h0,h1],?_⟩;cases r with
   |none=>simp only at h2 ⊢;simp[jz,hb,h2]
   |some u=>
    obtain⟨j,u⟩:=u;obtain⟨n,e',g1,g2,g3,g4⟩:=h2;exact⟨n+1,e',by simp[jz,hb,g1],ak,by simpa using g3,g4⟩
 |[],_::_,_,h=>h.elim
 |_::_,[],_,h=>h.elim
theorem PF{K:TypeId}{kt vt:Ty}(hK:uB P depth K kt=aZ){v:Value}{x:kt.den}(hx:Fe E kt v x){es:List gB}{l:List (kt.den×vt.den)}(h:Alike (Gj E kt vt) es l):
  ∃r,(Instr.findKey K v es).run P w= .ok r w/\match r with | none=>jz kt x l=aD | some (j,u)=>∃e,jz kt x l=av j/\es[j]? =av e/\u=e.val:=by
 have fin:∀r:Option (Nat×Value),(match r with | none=>jz kt x l=aD | some (j,u)=>∃n e,jz kt x l=av n/\j=0+n/\es[n]? =av e/\u=e.val)->match r with | none=>jz kt x l=aD | some (j,u)=>∃e,jz kt x l=av j/\es[j]? =av e/\u=e.val:=by
  intro r hr;cases r with
  |none=>exact hr
  |some u=>
   obtain⟨j,u⟩:=u;obtain⟨n,e,g1,g2,g3,g4⟩:=hr;obtain rfl:j=n:=ak;exact⟨e,g1,g3,g4⟩
 have scalar:∀d,P.underlying K=av d->(∀u y,Fe E kt u y->Instr.sameNow d v u=av (kt.beq x y))->∃r,(Instr.findKey K v es).run P w= .ok r w/\match r with | none=>jz kt x l=aD | some (j,u)=>∃e,jz kt x l=av j/\es[j]? =av e/\u=e.val:=by intro d hd hs;obtain⟨r,h1,h2⟩:=ait hs es l 0 h;exact⟨r,by simp[Instr.findKey,run_underlying hd,h1],fin r h2⟩
 have agg:∀d,P.underlying K=av d->(∀u y,Fe E kt u y->Instr.sameNow d v u=aD)->∃r,(Instr.findKey K v es).run P w= .ok r w/\match r with | none=>jz kt x l=aD | some (j,u)=>∃e,jz kt x l=av j/\es[j]? =av e/\u=e.val:=by
  intro d hd hs;cases es with
  |nil=>
   cases l with
   |nil=>exact⟨aD,by simp[Instr.findKey,run_underlying hd,Instr.findNow],rfl⟩
   |cons _ _=>exact h.elim
  |cons e es=>
   cases l with
   |nil=>exact h.elim
   |cons p l=>
    have hn:Instr.findNow d v (e::es) 0=aD:=by simp[Instr.findNow,hs e.key p.1 h.1.1]
    obtain⟨r,h1,h2⟩:=Q1 (w:=w) (vt:=vt) hK hx (e::es) (p::l) 0 h;exact⟨r,by simp[Instr.findKey,run_underlying hd,hn,h1],fin r h2⟩
 have hK0:=hK;unfold depth at hK0;simp only[uB]at hK0;obtain⟨cx,rx,ox⟩:=hx;split at hK0
 ·rename_i k k' hT;refine scalar _ hT λu y ⟨cy,ry,oy⟩=> ?_
  simp only[dA]at rx ry;have e1:cx=[v]:=ox;have e2:cy=[u]:=oy;rw[rx]at e1;rw[ry]at e2;simp only[dB,jw]at e1 e2;subst e1 e2;simp[Instr.sameNow,Ty.beq]
 ·rename_i hT;refine scalar _ hT λu y ⟨cy,ry,oy⟩=> ?_
  simp only[dA]at rx ry;have e1:cx=[v]:=ox;have e2:cy=[u]:=oy;rw[rx]at e1;rw[ry]at e2;simp only[dB,jw]at e1 e2;subst e1 e2;simp[Instr.sameNow,Ty.beq]
 ·rename_i hT;refine scalar _ hT λu y ⟨cy,ry,oy⟩=> ?_
  simp only[dA]at rx ry;have e1:cx=[v]:=ox;have e2:cy=[u]:=oy;rw[rx]at e1;rw[ry]at e2;simp only[dB,jw]at e1 e2;subst e1 e2;have hs:∀a b:ByteArray,(a==b)=(a.toList==b.toList):=λa b=>by
   by_cases MP:a=b
   ·subst MP;rw[(Go.MapKept.bytes_beq a a).2 rfl];simp
   ·have h1:(a==b)=aQ:=by
     cases h:(a==b) with
     |false=>rfl
     |true=>exact absurd ((Go.MapKept.bytes_beq a b).1 h) MP
    have h2:(a.toList==b.toList)=aQ:=by
     cases h:(a.toList==b.toList) with
     |false=>rfl
     |true=>exact absurd (beq_eq .str a b rfl h) MP
    rw[h1,h2]
  simp[Instr.sameNow,Ty.beq,hs]
 ·rename_i m e m' t' hT;exact agg _ hT λu y _=>by simp[Instr.sameNow]
 ·rename_i t0 _ _ fs hT;exact agg _ hT λu y _=>by simp[Instr.sameNow]
 ·cases hK0
end
section
variable {α β:Type} {R:α->β->Prop}
theorem Alike.get:∀ {xs:List α} {ys:List β} {i:Nat} {x:α},Alike R xs ys->xs[i]? =av x->∃y,ys[i]? =av y/\R x y
 |[],_,_,_,_,h=>by simp at h
 |_::_,[],_,_,h,_=>h.elim
 |x::xs,y::ys,0,z,⟨h1,_⟩,h=>by simp at h;subst h;exact⟨y,rfl,h1⟩
 |x::xs,y::ys,i+1,z,⟨_,h2⟩,h=>by simp at h;simpa using Alike.get h2 h
theorem Alike.set{x:α}{y:β}(hx:R x y):∀ {xs:List α} {ys:List β} (i:Nat),Alike R xs ys->Alike R (xs.set i x) (ys.set i y)
 |[],[],_,_=>trivial
 |[],_::_,_,h=>h.elim
 |_::_,[],_,h=>h.elim
 |_::_,_::_,0,⟨_,h2⟩=>⟨hx,h2⟩
 |_::_,_::_,i+1,⟨h1,h2⟩=>⟨h1,Alike.set hx i h2⟩
theorem Alike.push{x:α}{y:β}(hx:R x y):∀ {xs:List α} {ys:List β},Alike R xs ys->Alike R (xs++ [x]) (ys++ [y])
 |[],[],_=>⟨hx,trivial⟩
 |[],_::_,h=>h.elim
 |_::_,[],h=>h.elim
 |_::_,_::_,⟨h1,h2⟩=>⟨h1,Alike.push hx h2⟩
theorem Alike.erase:∀ {xs:List α} {ys:List β} (i:Nat),Alike R xs ys->Alike R (xs.eraseIdx i) (ys.eraseIdx i)
 |[],[],_,_=>by simp[Alike]
 |[],_::_,_,h=>h.elim
 |_::_,[],_,h=>h.elim
 |_::_,_::_,0,⟨_,h2⟩=>h2
 |_::_,_::_,i+1,⟨h1,h2⟩=>⟨h1,Alike.erase i h2⟩
end
theorem Ss{α:Type}{f:α->α->Bool}(hf:∀x,f x x=aZ):∀xs:List α,ni f xs xs=aZ
 |[]=>rfl
 |x::xs=>by simp[ni,hf x,Ss hf xs]
theorem beq_refl:∀(t:Ty) (x:t.den),t.comp=aZ->t.beq x x=aZ
 | .int _,x,_=>by simp[Ty.beq]
 | .bool,x,_=>by simp[Ty.beq]
 | .str,x,_=>by simp[Ty.beq]
 | .slice _,_,h=>by simp[Ty.comp]at h
 | .iT _,_,h | .vC _,_,h=>by simp[Ty.comp]at h
 | .unit,_,_=>rfl
 | .pair a b,x,h=>by simp only[Ty.comp,au]at h;simp only[Ty.beq,beq_refl a _ h.1,beq_refl b _ h.2,xA]
 | .arr _ t,x,h=>by simp only[Ty.comp]at h;exact Ss (λy=>beq_refl t y h) x
section
variable {β:Type} {kt:Ty}
theorem rF{x:kt.den}:bW kt x ([]:List (kt.den×β))=aD:=rfl
theorem fX{x:kt.den}{p:kt.den×β}{l:List (kt.den×β)}:bW kt x (p::l)=if kt.beq x p.1=aZ then av p.2 else bW kt x l:=by
 unfold bW;cases h:kt.beq x p.1 with
 |true=>simp[jz,h]
 |false=>
  simp only[jz,h];cases jz kt x l <;> simp
theorem aBq{x:kt.den}{v:β}:fj kt x v []=[(x,v)]:=rfl
theorem qt{x:kt.den}{v:β}{p:kt.den×β}{l:List (kt.den×β)}:fj kt x v (p::l)=if kt.beq x p.1=aZ then(x,v)::l else p::fj kt x v l:=by
 unfold fj;cases h:kt.beq x p.1 with
 |true=>simp[jz,h]
 |false=>
  simp only[jz,h];cases jz kt x l <;> simp
theorem aBp{x:kt.den}:iO kt x ([]:List (kt.den×β))=[]:=rfl
theorem xc{x:kt.den}{p:kt.den×β}{l:List (kt.den×β)}:iO kt x (p::l)=if kt.beq x p.1=aZ then l else p::iO kt x l:=by
 unfold iO;cases h:kt.beq x p.1 with
 |true=>simp[jz,h]
 |false=>
  simp only[jz,h];cases jz kt x l <;> simp
theorem Ms{x:kt.den}{v:β}:∀l:List (kt.den×β),(fj kt x v l).Perm ((x,v)::iO kt x l)
 |[]=>iX _
 |p::l=>by
  rw[qt,xc];split
  ·exact iX _
  ·exact((Ms l).cons p).trans (List.Perm.swap _ _ _)
theorem vN(hc:kt.comp=aZ){x:kt.den}:∀ {l:List (kt.den×β)},(l.map (·.1)).Nodup->iO kt x l=l.filter λp=> !kt.beq x p.1
 |[],_=>rfl
 |p::l,hn=>by
  rw[bY,dm]at hn;rw[xc,List.filter_cons];by_cases h:kt.beq x p.1=aZ
  ·rw[if_pos h];simp only[h,cQ,bw,bA];have hx:=beq_eq kt _ _ hc h;exact(je.2 λq hq=>by
    simp only[cS];rw[Bool.eq_false_iff];intro hb;have:=beq_eq kt _ _ hc hb;exact hn.1 (by rw[<-hx,this];exact df.2 ⟨q,hq,rfl⟩)).symm
  ·have h':kt.beq x p.1=aQ:=by simpa using h
   rw[if_neg h];simp only[h',fH,bM];rw[vN hc hn.2]
theorem iP(hc:kt.comp=aZ){x:kt.den}{v:β}:∀ {l:List (kt.den×β)},(l.map (·.1)).Nodup->(bW kt x l=av v↔(x,v)∈l)
 |[],_=>by simp[rF]
 |p::l,hn=>by
  rw[bY,dm]at hn;rw[fX,cv];by_cases h:kt.beq x p.1=aZ
  ·rw[if_pos h];have hx:=beq_eq kt _ _ hc h;constructor
   ·intro e;left;rw[hx,<-bn e]
   ·rintro(e | e)
    ·rw[<-e]
    ·exact absurd (df.2 ⟨_,e,rfl⟩) (by rw[<-hx]at hn;exact hn.1)
  ·rw[if_neg h,iP hc hn.2];constructor
   ·exact .inr
   ·rintro(e | e)
    ·exact absurd (by rw[<-e];exact beq_refl kt x hc) h
    ·exact e
theorem acz(hc:kt.comp=aZ){x:kt.den}{l l':List (kt.den×β)}(hn:(l.map (·.1)).Nodup)(hp:l'.Perm l):bW kt x l'=bW kt x l:=by apply Option.ext;intro v;rw[iP hc ((hp.map _).nodup_iff.2 hn),iP hc hn,hp.mem_iff]
theorem acy(hc:kt.comp=aZ){x:kt.den}{l l':List (kt.den×β)}(hn:(l.map (·.1)).Nodup)(hp:l'.Perm l):(iO kt x l').Perm (iO kt x l):=by rw[vN hc ((hp.map _).nodup_iff.2 hn),vN hc hn];exact hp.filter _
theorem auz(hc:kt.comp=aZ){x:kt.den}{v:β}{l l':List (kt.den×β)}(hn:(l.map (·.1)).Nodup)(hp:l'.Perm l):(fj kt x v l').Perm (fj kt x v l):=
 (Ms l').trans (((acy hc hn hp).cons _).trans (Ms l).symm)
theorem DD(hc:kt.comp=aZ){x:kt.den}{l:List (kt.den×β)}(hn:(l.map (·.1)).Nodup):((iO kt x l).map (·.1)).Nodup:=by rw[vN hc hn];exact hn.sublist (List.filter_sublist.map _)
theorem Ka(hc:kt.comp=aZ){x:kt.den}{v:β}{l:List (kt.den×β)}(hn:(l.map (·.1)).Nodup):((fj kt x v l).map (·.1)).Nodup:=by rw[((Ms l).map _).nodup_iff,bY,dm];refine⟨λh=> ?_,DD hc hn⟩;obtain⟨p,hp,he⟩:=df.1 h;rw[vN hc hn,oW]at hp;have:=hp.2;have he:p.1=x:=he;rw[he,beq_refl kt x hc]at this;cases this
end
theorem Qm{E:Env}:∀(v:aC) (t:Ty) (x:t.den) (cs:List Value),V E v cs->(sr t v).eval=av x->dA E t cs x/\v.agg=t.agg/\v.fA=aZ
 | .d t' x',t,x,cs,hv,h=>by
  have h':(Out.opt (wZ t' t x')).eval=av x:=by cases t <;> simpa only[sr]using h
  obtain⟨rfl,h'⟩:=km (lf.1 h');simp only at h';subst h';simp only[V]at hv;exact⟨hv,rfl,rfl⟩
 | .dy,.slice t,x,cs,hv,h=>by simp only[sr,az]at h;subst h;simp only[V]at hv;simp only[dA];exact⟨⟨aD,0,[],by simpa using hv,by simp,by simp,λi v hh=>by simp at hh,rfl⟩,rfl,rfl⟩
 | .pr a b,.pair ta tb,x,cs,hv,h=>by simp only[sr]at h;obtain⟨x1,h1,h2⟩:=ax.1 h;obtain⟨x2,h3,h4⟩:=ax.1 h2;obtain rfl:=az.1 h4;simp only[V]at hv;obtain⟨ca,cb,rfl,ha,hb⟩:=hv;simp only[dA];exact⟨⟨ca,cb,rfl,(Qm a ta x1 ca ha h1).1,(Qm b tb x2 cb hb h3).1⟩,rfl,rfl⟩
 | .dy,.int _,_,_,_,h | .dy,.bool,_,_,_,h | .dy,.str,_,_,_,h | .dy,.unit,_,_,_,h | .dy,.pair _ _,_,_,_,h | .dy,.arr _ _,_,_,_,h=>by simp only[sr,aw]at h
 | .pr _ _,.int _,_,_,_,h | .pr _ _,.bool,_,_,_,h | .pr _ _,.str,_,_,_,h | .pr _ _,.unit,_,_,_,h | .pr _ _,.slice _,_,_,_,h | .pr _ _,.arr _ _,_,_,_,h=>by simp only[sr,aw]at h
 | .undef,t,_,_,_,h | .gone,t,_,_,_,h | .sq,t,_,_,_,h | .yP,t,_,_,_,h | .yl ..,t,_,_,_,h | .EB,t,_,_,_,h | .ptr ..,t,_,_,_,h | .dV ..,t,_,_,_,h | .bE ..,t,_,_,_,h | .fn ..,t,_,_,_,h
 | .cons ..,t,_,_,_,h | .nil,t,_,_,_,h | .vec ..,t,_,_,_,h | .sb _,t,_,_,_,h | .bx ..,t,_,_,_,h | .cI ..,t,_,_,_,h | .mp ..,t,_,_,_,h | .uE ..,t,_,_,_,h | .sS ..,t,_,_,_,h=>by cases t <;> simp only[sr,aw]at h
theorem agj{v:aC}{t:Ty}{x:t.den}(h:(sr t v).eval=av x):v.fA=aZ:=by cases v <;> first | rfl | (cases t <;> simp only[sr,aw]at h)
theorem Hu{E:Env}{v:aC}{y:Value}(hv:VS E v y){t:Ty}{x:t.den}(h:(sr t v).eval=av x):Fe E t y x:=by obtain⟨cs,h1,h2⟩:=hv.fA (agj h);obtain⟨h3,h4,_⟩:=Qm v t x cs h1 h;exact⟨cs,h3,by rw[<-h4];exact h2⟩
theorem DC{P:aT}{T K V':TypeId}{kt vt:Ty}(h:mapOf P T=av (K,V',kt,vt)):P.underlying T=av (.map K V')/\uB P depth K kt=aZ/\am0 P V' (.d vt vt.zero)=aZ:=by
 unfold mapOf at h;split at h
 ·rename_i K0 V0 hT;split at h
  ·split at h
   ·rename_i hc;simp only[aA,cT]at h;obtain⟨rfl,rfl,rfl,rfl⟩:=h;rw[au]at hc;exact⟨hT,hc.1,hc.2⟩
   ·cases h
  ·cases h
 ·cases h
theorem anU{k v k' v':Ty}{l:List (k.den×v.den)}{l':List (k'.den×v'.den)}(h:ata k v k' v' l=av l'):∃(e1:k=k') (e2:v=v'),(e1▸e2▸l)=l':=by
 unfold ata at h;split at h
 ·rename_i e;exact⟨e.1,e.2,by simpa using h⟩
 ·cases h
section
variable {P:aT} {C:Ctx} {g:Nat->np} {β:Id->Option Pl} {s:AS} {a:Act} {w:cd} {o:Oper}
theorem AO(h:Inv C g β s a w){id:Id}{ver:Nat}{kt vt:Ty}{l:List (kt.den×vt.den)}(ho:(s.vM id ver kt vt).eval=av l){y:Value}(hv:VS (s.env w g β) (.cI id ver) y):
  ∃fr pl es clock,s.cq id=av (.obj ver fr (.mp kt vt l))/\β id=av pl/\y= .map (av pl.b)/\w.heap[pl.b]? =av (.map es clock)/\g pl.b= .own (.id id) 0/\ajr (s.env w g β) kt vt es.toList l/\pN es.toList clock/\(l.map (·.1)).Nodup:=by
 unfold AS.vM at ho;split at ho
 ·rename_i v fr k' v' l' mX;obtain⟨aRo,aU9⟩:=aH.1 ho;have aRo:v=ver:=by simpa using aRo
  obtain⟨rfl,rfl,rfl⟩:=anU (lf.1 aU9);subst aRo;have dh:=eU mX;obtain⟨pl,es,clock,h1,h2,h3,h4⟩:=h.bT id v fr _ dh;have hs:=hv.single rfl rfl;simp only[V]at hs;obtain⟨b,hb,_,hc⟩:=hs;obtain⟨pl',h5,h6⟩:=hc ⟨fr,_,dh⟩;have h1:β id=av pl:=h1;have h5:β id=av pl':=h5;rw[h1]at h5;obtain rfl:pl=pl':=by simpa using h5
  refine⟨fr,pl,es,clock,dh,h1,?_,h2,h3,h4.1.1,h4.2,h4.1.2⟩;have hb:y= .map (av b):=by simpa using hb
  rw[hb,h6]
 ·simp only[aw]at ho
theorem alp(h:Inv C g β s a w){T:TypeId}(dF:o.op= .makeMap T aD){s':AS}(he:(J8 P s o.dst T).eval=av s'):gr P o a w (jf C s'):=by
 unfold J8 at he;split at he
 ·rename_i K V' kt vt q hm hd;obtain⟨hq,he⟩:=aH.1 he;obtain rfl:=az.1 he;have ht:=Trans.alloc w g (.map #[] 0) (.own (.id (.new q 0)) 0);obtain⟨h1,h2⟩:=h.UQ hq (c:= .mp kt vt []) (p:=av ⟨w.heap.size,0⟩) ht (λb hb=>⟨sC w _ hb,fZ _ _ _ ak⟩) (λ_=>
   ⟨⟨w.heap.size,0⟩,#[],0,kR _ _ _,vc w _,gm _ _ _,⟨⟨[],trivial,iX _⟩,gM⟩,pN.nil _⟩)
  refine .inl ⟨.map (av w.heap.size),w.alloc (.map #[] 0),?_,_,_,h1.put o.dst (v:= .cI (.new q 0) 0) ⟨[.map (av w.heap.size)],?_,rfl⟩⟩
  ·refine eK (f:=Instr.makeMap T aD) (by simp only[execOp,dF];rfl) ?_
   simp[Instr.makeMap,run_newObj_alloc]
  ·simp only[V];exact⟨_,rfl,ru hq _ _ _ _,λ_=>⟨_,kR _ _ _,rfl⟩⟩
 ·simp only[aw]at he
theorem Fe.vs{E:Env}{t:Ty}{v:Value}{x:t.den}(h:Fe E t v x):VS E (.d t x) v:=by obtain⟨cs,h1,h2⟩:=h;exact⟨cs,by simpa only[V]using h1,h2⟩
theorem apK(h:Inv C g β s a w){T:TypeId}{x i:bU}{ok:Bool}(dF:o.op= .lookup T x i ok){v:aC}(he:(Ha P s T (s.ev x) (s.ev i) ok).eval=av v):gr P o a w (jf C (s.put o.dst v)):=by
 unfold Ha at he;split at he
 ·rename_i K V' kt vt id ver hm hx;obtain⟨l,h1,he⟩:=ax.1 he;obtain⟨k,h2,he⟩:=ax.1 he;obtain rfl:=az.1 he;obtain⟨hT,hK,hz⟩:=DC hm;have abQ:=h.ev x;rw[hx]at abQ;obtain⟨fr,pl,es,clock,g1,g2,g3,g4,g5,g6,g7,gn⟩:=AO h h1 abQ;have NK:=B2 depth K kt hK;obtain⟨l0,g6,gp⟩:=g6;rw[<-acz NK gn gp];clear gn h1;generalize l0=l at g6;have hk:=Hu (h.ev i) h2;have aPA:=pX (P:=P) (w:=w) es.isEmpty depth K kt hK 10000 fg _ _ hk;obtain⟨r,hf,hr⟩:=PF (P:=P) (w:=w) hK hk g6;obtain⟨iz,zv,z1,z2,z3,z4⟩:=xz hz (s.env w g β);have aAP:Fe (s.env w g β) vt zv vt.zero:=⟨_,by simpa only[V]using z3,z4⟩;have hzero:(zeroValue V').run P w= .ok zv w:=by simp[zeroValue,typeInfo,z1,z2]
  obtain⟨val,im,B9⟩:∃val:Value×Bool,(Instr.lookup T (a.eval x) (a.eval i) ok).run P w= .ok (if ok then .tuple #[val.1,.bool val.2] else val.1) w/\Fe (s.env w g β) vt val.1 ((bW kt k l).getD vt.zero)/\val.2=(bW kt k l).isSome:=by
   cases r with
   |none=>
    simp only at hr;have hg:bW kt k l=aD:=by simp[bW,hr]
    refine⟨(zv,aQ),?_,by rw[hg];exact aAP,by rw[hg];rfl⟩;simp[Instr.lookup,run_underlying hT,g3,Go.MapKept.run_getObj_map g4,aPA,hf,hzero]
   |some u=>
    obtain⟨j,u⟩:=u;obtain⟨e,m1,m2,rfl⟩:=hr;obtain⟨p,m3,m4⟩:=g6.get m2;have hg:bW kt k l=av p.2:=by simp[bW,m1,m3]
    refine⟨(e.val,aZ),?_,by rw[hg];exact m4.2,by rw[hg];rfl⟩;simp[Instr.lookup,run_underlying hT,g3,Go.MapKept.run_getObj_map g4,aPA,hf]
  refine h.value (x:=if ok then .tuple #[val.1,.bool val.2] else val.1) ?_ (eK (f:=Instr.lookup T (a.eval x) (a.eval i) ok) (by simp only[execOp,dF]) im)
  unfold aPU;cases ok with
  |true=>
   obtain⟨cs,c1,c2⟩:=B9.1;refine⟨[val.1,.bool val.2],rfl,?_⟩;simp only[VC];refine⟨_,_,cs,rfl,by simpa only[V]using c1,c2,_,_,[.bool val.2],rfl,?_,rfl,rfl⟩;simp only[V,dA,B9.2]
  |false=>exact B9.1.vs
 ·simp only[aw]at he
theorem Inv.aJ0(h:Inv C g β s a w){id:Id}{ver:Nat}{fr:Bool}{kt vt:Ty}{l l':List (kt.den×vt.den)}{pl:Pl}{es es':Array gB}{clock clock':Nat}(dh:s.cq id=av (.obj ver fr (.mp kt vt l)))(hp:β id=av pl)
  (hb:w.heap[pl.b]? =av (.map es clock)) (hg:g pl.b= .own (.id id) 0) (hr:ajr (s.env w g β) kt vt es'.toList l') (aY2:(l'.map (·.1)).Nodup) (aTB:pN es'.toList clock') (aRm:s.wh id=aZ):
  Inv C g β (s.bq id (.obj ver aQ (.mp kt vt l'))) a {w with heap:=w.heap.setIfInBounds pl.b (.map es' clock')}:=by
 have iA:pl.b < w.heap.size:=(bX.1 hb).1;have hother:∀b',b'≠pl.b->({w with heap:=w.heap.setIfInBounds pl.b (.map es' clock')}:cd).heap[b']? =w.heap[b']? :=λb' il=>by
  show(w.heap.setIfInBounds pl.b _)[b']? =_
  rw[eF,if_neg (λe=>il e.symm)]
 have ht:Trans w {w with heap:=w.heap.setIfInBounds pl.b (.map es' clock')} g g:=by
  refine⟨rfl,rfl,⟨rfl,ay _⟩,by simp,λb' _=> ?_⟩;by_cases he:b'=pl.b
  ·subst he;rw[hg];exact⟨.inr ⟨id,0,rfl,ay _⟩,λ_ _ hh=>ak⟩
  ·rw[hother b' he];cases YT:g b' with
   |free=>exact⟨rfl,rfl⟩
   |own o' k=>cases o' with
    |eY=>exact⟨rfl,rfl⟩
    |id i'=>exact⟨.inr ⟨i',k,rfl,ay _⟩,λoff v _ hv=>by simpa only[fq,hother b' he]using hv⟩
 have hle:db (s.env w g β) ((s.bq id (.obj ver aQ (.mp kt vt l'))).env {w with heap:=w.heap.setIfInBounds pl.b (.map es' clock')} g β):=db.bq dh (ay _) ht (λ_ _=>rfl) (λ_=>rfl);refine h.step (dE _ _ _) ht hle (jE.bq h.bT (by rw[dh];simp) hle (λ_ _=>rfl) (λi ver fr c pl2 hi abO ZI=>⟨hother _ (h.apart hg hi abO ZI),rfl⟩) ?_ (by obtain rfl:=LL dh aRm;exact Sv dh));refine⟨pl,es',clock',hp,?_,hg,⟨hr.mono hle.mem,aY2⟩,aTB⟩;show(w.heap.setIfInBounds pl.b _)[pl.b]? =_
 rw[eF,if_pos rfl,if_pos iA]
theorem apR(h:Inv C g β s a w){T:TypeId}{m k x:bU}(dF:o.op= .mapUpdate T m k x){s':AS}(he:(Hf P s T (s.ev m) (s.ev k) (s.ev x)).eval=av s'):gr P o a w (jf C (s'.put o.dst .undef)):=by
 unfold Hf at he;split at he
 ·rename_i K V' kt vt id ver hm hx;obtain⟨l,h1,he⟩:=ax.1 he;obtain⟨kx,h2,he⟩:=ax.1 he;obtain⟨vx,h3,he⟩:=ax.1 he;obtain⟨aRm,he⟩:=aH.1 he;obtain rfl:=az.1 he;obtain⟨hT,hK,_⟩:=DC hm;have abQ:=h.ev m;rw[hx]at abQ;obtain⟨fr,pl,es,clock,g1,g2,g3,g4,g5,g6,g7,gn⟩:=AO h h1 abQ;obtain⟨l0,g6,gp⟩:=g6;have hk:=Hu (h.ev k) h2;have hv:=Hu (h.ev x) h3;have aPA:=pX (P:=P) (w:=w) aQ depth K kt hK 10000 fg _ _ hk;obtain⟨r,hf,hr⟩:=PF (P:=P) (w:=w) hK hk g6;have NK:=B2 depth K kt hK
  have fin:∀(es':Array gB) (clock':Nat),(Instr.mapUpdate T (a.eval m) (a.eval k) (a.eval x)).run P w= .ok () {w with heap:=w.heap.setIfInBounds pl.b (.map es' clock')}->Alike (Gj (s.env w g β) kt vt) es'.toList (fj kt kx vx l0)->pN es'.toList clock'->
    gr P o a w (jf C ((s.bq id (.obj ver aQ (.mp kt vt (fj kt kx vx l)))).put o.dst .undef)):=λes' clock' im aG5 aTB=>
   .inr (.inl ⟨_,ahP (f:=Instr.mapUpdate T (a.eval m) (a.eval k) (a.eval x)) (by simp only[execOp,dF]) im,g,β,(h.aJ0 g1 g2 g4 g5 ⟨_,aG5,auz NK gn gp⟩ (Ka NK gn) aTB aRm).put o.dst VS.undef⟩)
  cases r with
  |none=>
   simp only at hr;refine fin (es.push {key:=a.eval k,val:=a.eval x,born:=clock}) (clock+1) ?_ ?_ (by rw[Array.toList_push];exact g7.push rfl)
   ·simp[Instr.mapUpdate,run_underlying hT,g3,Go.MapKept.run_getObj_map g4,aPA,hf,Go.MapKept.run_setObj_map _ g4]
   ·simp only[fj,hr,Array.toList_push];exact g6.push ⟨hk,hv⟩
  |some u=>
   obtain⟨j,u⟩:=u;obtain⟨e,m1,m2,rfl⟩:=hr;obtain⟨p,m3,m4⟩:=g6.get m2;have aVP:kt.beq kx p.1=aZ:=by
    have:∀(l:List (kt.den×vt.den)) (j:Nat),jz kt kx l=av j->∀p,l[j]? =av p->kt.beq kx p.1=aZ:=by
     intro l
     induction l with
     |nil=>intro j hj;simp[jz]at hj
     |cons q l ih=>
      intro j hj p hp;simp only[jz]at hj;cases hb:kt.beq kx q.1 with
      |true=>
       rw[hb]at hj;simp only[aA]at hj;subst hj;simp at hp;subst hp;exact hb
      |false=>
       rw[hb]at hj;simp only[dx]at hj;obtain⟨j',hj',rfl⟩:=hj;exact ih j' hj' p (by simpa using hp)
    exact this l0 j m1 p m3
   have aWG:=beq_eq kt kx p.1 NK aVP;have aV5:e.key=a.eval k:=Fe.aQG NK (aWG▸m4.1) hk;have m2':es[j]? =av e:=by simpa using m2
   refine fin (es.modify j λe=> {e with key:=a.eval k,val:=a.eval x}) clock ?_ ?_ (by rw[Array.toList_modify,Go.ChangeMaps.modify_eq_set _ _ _ _ m2];exact g7.set m2 rfl)
   ·simp[Instr.mapUpdate,run_underlying hT,g3,Go.MapKept.run_getObj_map g4,aPA,hf,m2',aV5,aCP NK hk,Go.MapKept.run_setObj_map _ g4]
   ·simp only[fj,m1,Array.toList_modify];rw[Go.ChangeMaps.modify_eq_set _ _ _ _ m2];exact Alike.set (R:=Gj (s.env w g β) kt vt) ⟨hk,hv⟩ j g6
 ·simp only[aw]at he
end
end Go.Ab
end
